import Derived.Test.YtjokaennipmmaaaDoorB1
/- Trees of digests as plain functions: roots, proofs, how long they are; no program is named here. -/
namespace Go.Proofs.YtjokaennipmmaaaDoor
open Go.RowKit
/-- The greatest power of two below n, of n from 2 on. -/
def halfE (n : Nat) : Nat := 2 ^ (n - 1).log2
theorem halfE_pos (n : Nat) : 0 < halfE n := Nat.two_pow_pos _
theorem halfE_lt {n : Nat} (h : 2 ≤ n) : halfE n < n := by
  have := Nat.log2_self_le (n := n - 1) (by omega)
  unfold halfE; omega
theorem halfE_ge {n : Nat} : n ≤ 2 * halfE n := by
  have := Nat.lt_log2_self (n := n - 1)
  rw [Nat.pow_succ] at this
  unfold halfE; omega
theorem halfE_stop {n j : Nat} (h1 : 2 ^ j < n) (h2 : n ≤ 2 * 2 ^ j) : halfE n = 2 ^ j := by
  have h0 := Nat.two_pow_pos j
  have e : (n - 1).log2 = j := (Nat.log2_eq_iff (by omega)).2 ⟨by omega, by rw [Nat.pow_succ]; omega⟩
  unfold halfE
  rw [e]
theorem halfE_small {n : Nat} (h : n ≤ 2) : halfE n = 1 := by
  have : n = 0 ∨ n = 1 ∨ n = 2 := by omega
  rcases this with rfl | rfl | rfl <;> decide
theorem halfE_le_pow {n j : Nat} (h : 2 ≤ n) (hj : n ≤ 2 ^ (j + 1)) : halfE n ≤ 2 ^ j := by
  unfold halfE
  apply Nat.pow_le_pow_right (by omega)
  have h1 : (n - 1).log2 < j + 1 := (Nat.log2_lt (by omega)).2 (by omega)
  omega
section
variable (e0 : D)
/-- The root of a list; e0: that of none. -/
def rootE (l : List D) : D :=
  if h : 2 ≤ l.length then
    have _h1 := halfE_lt h
    have _h2 := halfE_pos l.length
    pairE (rootE (l.take (halfE l.length))) (rootE (l.drop (halfE l.length)))
  else l.headD e0
termination_by l.length
decreasing_by
  · simp only [List.length_take]; omega
  · simp only [List.length_drop]; omega
theorem rootE_nil : rootE e0 [] = e0 := by unfold rootE; rfl
theorem rootE_one (d : D) : rootE e0 [d] = d := by unfold rootE; rfl
theorem rootE_of_one {l : List D} (h : l.length = 1) : rootE e0 l = l.getD 0 D.zero := by
  match l, h with
  | [d], _ => rw [rootE_one]; rfl
theorem rootE_more {l : List D} (h : 2 ≤ l.length) : rootE e0 l = pairE (rootE e0 (l.take (halfE l.length))) (rootE e0 (l.drop (halfE l.length))) := by
  conv => lhs; unfold rootE
  rw [dif_pos h]
/-- The proof of a place. -/
def wayE (l : List D) (i : Nat) : List D :=
  if h : 2 ≤ l.length then
    have _h1 := halfE_lt h
    have _h2 := halfE_pos l.length
    if i < halfE l.length then wayE (l.take (halfE l.length)) i ++ [rootE e0 (l.drop (halfE l.length))]
    else wayE (l.drop (halfE l.length)) (i - halfE l.length) ++ [rootE e0 (l.take (halfE l.length))]
  else []
termination_by l.length
decreasing_by
  · simp only [List.length_take]; omega
  · simp only [List.length_drop]; omega
theorem wayE_one {l : List D} (i : Nat) (h : l.length < 2) : wayE e0 l i = [] := by
  unfold wayE; rw [dif_neg (by omega)]
theorem wayE_left {l : List D} {i : Nat} (h : 2 ≤ l.length) (hi : i < halfE l.length) : wayE e0 l i = wayE e0 (l.take (halfE l.length)) i ++ [rootE e0 (l.drop (halfE l.length))] := by
  conv => lhs; unfold wayE
  rw [dif_pos h]; simp only [if_pos hi]
theorem wayE_right {l : List D} {i : Nat} (h : 2 ≤ l.length) (hi : ¬ i < halfE l.length) : wayE e0 l i = wayE e0 (l.drop (halfE l.length)) (i - halfE l.length) ++ [rootE e0 (l.take (halfE l.length))] := by
  conv => lhs; unfold wayE
  rw [dif_pos h]; simp only [if_neg hi]
/-- The proof of the first m in a list that is whole, or cut. -/
def goesE (l : List D) (m : Nat) (whole : Bool) : List D :=
  if m = l.length then (if whole then [] else [rootE e0 l])
  else if h : 2 ≤ l.length then
    have _h1 := halfE_lt h
    have _h2 := halfE_pos l.length
    if m ≤ halfE l.length then goesE (l.take (halfE l.length)) m whole ++ [rootE e0 (l.drop (halfE l.length))]
    else goesE (l.drop (halfE l.length)) (m - halfE l.length) false ++ [rootE e0 (l.take (halfE l.length))]
  else []
termination_by l.length
decreasing_by
  · simp only [List.length_take]; omega
  · simp only [List.length_drop]; omega
theorem goesE_all (l : List D) : goesE e0 l l.length true = [] := by unfold goesE; simp
theorem goesE_cut (l : List D) : goesE e0 l l.length false = [rootE e0 l] := by unfold goesE; simp
theorem goesE_left {l : List D} {m : Nat} {b : Bool} (h : 2 ≤ l.length) (hm : m ≠ l.length) (hi : m ≤ halfE l.length) : goesE e0 l m b = goesE e0 (l.take (halfE l.length)) m b ++ [rootE e0 (l.drop (halfE l.length))] := by
  conv => lhs; unfold goesE
  rw [if_neg hm, dif_pos h]; simp only [if_pos hi]
theorem goesE_right {l : List D} {m : Nat} {b : Bool} (h : 2 ≤ l.length) (hm : m ≠ l.length) (hi : ¬ m ≤ halfE l.length) : goesE e0 l m b = goesE e0 (l.drop (halfE l.length)) (m - halfE l.length) false ++ [rootE e0 (l.take (halfE l.length))] := by
  conv => lhs; unfold goesE
  rw [if_neg hm, dif_pos h]; simp only [if_neg hi]
/-- A proof of a list of up to 2^j has at most j digests. -/
theorem wayE_length_le (j : Nat) : ∀ (l : List D) (i : Nat), l.length ≤ 2 ^ j → (wayE e0 l i).length ≤ j := by
  induction j with
  | zero => intro l i h; rw [wayE_one e0 i (by simpa using Nat.lt_of_le_of_lt h (by decide))]; simp
  | succ j ih =>
    intro l i h
    by_cases h2 : 2 ≤ l.length
    · have hk := halfE_le_pow h2 h
      have hl := halfE_lt h2
      have hg := halfE_ge (n := l.length)
      by_cases hi : i < halfE l.length
      · rw [wayE_left e0 h2 hi]
        have := ih (l.take (halfE l.length)) i (by simp only [List.length_take]; omega)
        simp only [List.length_append, List.length_singleton]; omega
      · rw [wayE_right e0 h2 hi]
        have := ih (l.drop (halfE l.length)) (i - halfE l.length) (by simp only [List.length_drop]; omega)
        simp only [List.length_append, List.length_singleton]; omega
    · rw [wayE_one e0 i (by omega)]; simp
theorem goesE_length_le (j : Nat) : ∀ (l : List D) (m : Nat) (b : Bool), l.length ≤ 2 ^ j → (goesE e0 l m b).length ≤ j + 1 := by
  induction j with
  | zero =>
    intro l m b h
    have h1 : l.length ≤ 1 := by simpa using h
    by_cases hm : m = l.length
    · subst hm; cases b
      · rw [goesE_cut]; simp
      · rw [goesE_all]; simp
    · unfold goesE; rw [if_neg hm, dif_neg (by omega)]; simp
  | succ j ih =>
    intro l m b h
    by_cases hm : m = l.length
    · subst hm; cases b
      · rw [goesE_cut]; simp
      · rw [goesE_all]; simp
    · by_cases h2 : 2 ≤ l.length
      · have hk := halfE_le_pow h2 h
        have hl := halfE_lt h2
        have hg := halfE_ge (n := l.length)
        by_cases hi : m ≤ halfE l.length
        · rw [goesE_left e0 h2 hm hi]
          have := ih (l.take (halfE l.length)) m b (by simp only [List.length_take]; omega)
          simp only [List.length_append, List.length_singleton]; omega
        · rw [goesE_right e0 h2 hm hi]
          have := ih (l.drop (halfE l.length)) (m - halfE l.length) false (by simp only [List.length_drop]; omega)
          simp only [List.length_append, List.length_singleton]; omega
      · unfold goesE; rw [if_neg hm, dif_neg (by omega)]; simp
end
end Go.Proofs.YtjokaennipmmaaaDoor
/- Whether a proof shows it, as plain functions: by taking the last one off, and by going up; both tell the same; no program is named here. -/
namespace Go.Proofs.YtjokaennipmmaaaDoor
open Go.RowKit
/-- The last one taken off what is left; what is left behind it, and whether more was asked for than there was. -/
def lastE (st : List D × Bool) : D × List D × Bool := if st.1 = [] then (D.zero, [], true) else (st.1.getLastD D.zero, st.1.dropLast, st.2)
theorem lastE_nil (b : Bool) : lastE ([], b) = (D.zero, [], true) := rfl
theorem lastE_cons {p : List D} (h : p ≠ []) (b : Bool) : lastE (p, b) = (p.getLastD D.zero, p.dropLast, b) := by unfold lastE; rw [if_neg h]
theorem lastE_snoc (p : List D) (d : D) (b : Bool) : lastE (p ++ [d], b) = (d, p, b) := by
  rw [lastE_cons (by simp)]; simp
def climbE (n i : Nat) (leaf : D) (st : List D × Bool) : D × List D × Bool :=
  if _h : 2 ≤ n then
    if i < halfE n then (pairE (climbE (halfE n) i leaf (lastE st).2).1 (lastE st).1, (climbE (halfE n) i leaf (lastE st).2).2)
    else (pairE (lastE st).1 (climbE (n - halfE n) (i - halfE n) leaf (lastE st).2).1, (climbE (n - halfE n) (i - halfE n) leaf (lastE st).2).2)
  else (leaf, st)
termination_by n
decreasing_by all_goals (have := halfE_lt _h; have := halfE_pos n; omega)
theorem climbE_one {n : Nat} (i : Nat) (leaf : D) (st : List D × Bool) (h : n < 2) : climbE n i leaf st = (leaf, st) := by unfold climbE; rw [dif_neg (by omega)]
theorem climbE_left {n i : Nat} (leaf : D) (st : List D × Bool) (h : 2 ≤ n) (hi : i < halfE n) : climbE n i leaf st = (pairE (climbE (halfE n) i leaf (lastE st).2).1 (lastE st).1, (climbE (halfE n) i leaf (lastE st).2).2) := by
  conv => lhs; unfold climbE
  rw [dif_pos h, if_pos hi]
theorem climbE_right {n i : Nat} (leaf : D) (st : List D × Bool) (h : 2 ≤ n) (hi : ¬ i < halfE n) : climbE n i leaf st = (pairE (lastE st).1 (climbE (n - halfE n) (i - halfE n) leaf (lastE st).2).1, (climbE (n - halfE n) (i - halfE n) leaf (lastE st).2).2) := by
  conv => lhs; unfold climbE
  rw [dif_pos h, if_neg hi]
def upE (n i : Nat) (leaf : D) (p : List D) : D × Bool :=
  if _h : 2 ≤ n then
    if p = [] then (leaf, false)
    else if i < halfE n then (pairE (upE (halfE n) i leaf p.dropLast).1 (p.getLastD D.zero), (upE (halfE n) i leaf p.dropLast).2)
    else (pairE (p.getLastD D.zero) (upE (n - halfE n) (i - halfE n) leaf p.dropLast).1, (upE (n - halfE n) (i - halfE n) leaf p.dropLast).2)
  else (leaf, p.isEmpty)
termination_by n
decreasing_by all_goals (have := halfE_lt _h; have := halfE_pos n; omega)
theorem upE_one {n : Nat} (i : Nat) (leaf : D) (p : List D) (h : n < 2) : upE n i leaf p = (leaf, p.isEmpty) := by unfold upE; rw [dif_neg (by omega)]
theorem upE_nil {n : Nat} (i : Nat) (leaf : D) (h : 2 ≤ n) : upE n i leaf [] = (leaf, false) := by unfold upE; rw [dif_pos h, if_pos rfl]
theorem upE_left {n i : Nat} (leaf : D) {p : List D} (h : 2 ≤ n) (hp : p ≠ []) (hi : i < halfE n) : upE n i leaf p = (pairE (upE (halfE n) i leaf p.dropLast).1 (p.getLastD D.zero), (upE (halfE n) i leaf p.dropLast).2) := by
  conv => lhs; unfold upE
  rw [dif_pos h, if_neg hp, if_pos hi]
theorem upE_right {n i : Nat} (leaf : D) {p : List D} (h : 2 ≤ n) (hp : p ≠ []) (hi : ¬ i < halfE n) : upE n i leaf p = (pairE (p.getLastD D.zero) (upE (n - halfE n) (i - halfE n) leaf p.dropLast).1, (upE (n - halfE n) (i - halfE n) leaf p.dropLast).2) := by
  conv => lhs; unfold upE
  rw [dif_pos h, if_neg hp, if_neg hi]
/-- Just as many as were taken. -/
def spentE (st : List D × Bool) : Bool := !st.2 && st.1.isEmpty
theorem lastE_short (p : List D) : (lastE (p, true)).2.2 = true := by
  by_cases h : p = []
  · subst h; rfl
  · rw [lastE_cons h]
theorem climbE_short (n : Nat) : ∀ i leaf (p : List D), (climbE n i leaf (p, true)).2.2 = true := by
  induction n using Nat.strongRecOn with
  | ind n ih =>
    intro i leaf p
    by_cases h : 2 ≤ n
    · have h1 := halfE_lt h
      have h2 := halfE_pos n
      have hs := lastE_short p
      have e : (lastE (p, true)).2 = ((lastE (p, true)).2.1, true) := Prod.ext rfl hs
      by_cases hi : i < halfE n
      · rw [climbE_left leaf _ h hi, e]; exact ih _ h1 _ _ _
      · rw [climbE_right leaf _ h hi, e]; exact ih _ (by omega) _ _ _
    · rw [climbE_one i leaf _ (by omega)]
theorem climb_up (n : Nat) : ∀ i leaf (p : List D), spentE (climbE n i leaf (p, false)).2 = (upE n i leaf p).2 ∧ ((upE n i leaf p).2 = true → (climbE n i leaf (p, false)).1 = (upE n i leaf p).1) := by
  induction n using Nat.strongRecOn with
  | ind n ih =>
    intro i leaf p
    by_cases h : 2 ≤ n
    · have h1 := halfE_lt h
      have h2 := halfE_pos n
      by_cases hp : p = []
      · subst hp
        rw [upE_nil i leaf h]
        refine ⟨?_, fun hh => by cases hh⟩
        by_cases hi : i < halfE n
        · rw [climbE_left leaf _ h hi]; simp [spentE, lastE_nil, climbE_short]
        · rw [climbE_right leaf _ h hi]; simp [spentE, lastE_nil, climbE_short]
      · by_cases hi : i < halfE n
        · obtain ⟨a, b⟩ := ih (halfE n) h1 i leaf p.dropLast
          rw [climbE_left leaf _ h hi, upE_left leaf h hp hi, lastE_cons hp]
          exact ⟨a, fun hh => by rw [b hh]⟩
        · obtain ⟨a, b⟩ := ih (n - halfE n) (by omega) (i - halfE n) leaf p.dropLast
          rw [climbE_right leaf _ h hi, upE_right leaf h hp hi, lastE_cons hp]
          exact ⟨a, fun hh => by rw [b hh]⟩
    · rw [climbE_one i leaf _ (by omega), upE_one i leaf _ (by omega)]
      exact ⟨by simp [spentE], fun _ => rfl⟩
/-- What goes up has no more than the tree is high. -/
theorem up_len (j : Nat) : ∀ n i leaf (p : List D), n ≤ 2 ^ j → (upE n i leaf p).2 = true → p.length ≤ j := by
  induction j with
  | zero =>
    intro n i leaf p hn h
    rw [upE_one i leaf _ (by simpa using Nat.lt_of_le_of_lt hn (by decide))] at h
    have : p = [] := by simpa using h
    subst this; simp
  | succ j ih =>
    intro n i leaf p hn h
    by_cases h2 : 2 ≤ n
    · by_cases hp : p = []
      · subst hp; simp
      · have hk := halfE_le_pow h2 hn
        have hg := halfE_ge (n := n)
        have hl : p.length = p.dropLast.length + 1 := by
          have : 0 < p.length := List.length_pos_iff.2 hp
          simp; omega
        by_cases hi : i < halfE n
        · rw [upE_left leaf h2 hp hi] at h
          have := ih _ _ _ _ hk h
          omega
        · rw [upE_right leaf h2 hp hi] at h
          have := ih _ _ _ _ (by omega) h
          omega
    · rw [upE_one i leaf _ (by omega)] at h
      have : p = [] := by simpa using h
      subst this; simp
/-- merkle.Check, of numbers that may be. -/
def mcheckE (root : D) (n i : Nat) (leaf : D) (p : List D) : Bool := spentE (climbE n i leaf (p, false)).2 && decide ((climbE n i leaf (p, false)).1 = root)
def rcheckE (root : D) (n i : Nat) (leaf : D) (p : List D) : Bool := (upE n i leaf p).2 && decide ((upE n i leaf p).1 = root)
theorem mcheck_rcheck (root : D) (n i : Nat) (leaf : D) (p : List D) : mcheckE root n i leaf p = rcheckE root n i leaf p := by
  obtain ⟨a, b⟩ := climb_up n i leaf p
  unfold mcheckE rcheckE
  rw [a]
  by_cases h : (upE n i leaf p).2 = true
  · rw [b h]
  · simp [h]
theorem rcheck_long (root : D) (n i : Nat) (leaf : D) (p : List D) (hn : n ≤ 1000) (hp : 20 < p.length) : rcheckE root n i leaf p = false := by
  unfold rcheckE
  by_cases h : (upE n i leaf p).2 = true
  · have := up_len 10 n i leaf p (by omega) h
    omega
  · simp [h]
/-- The proof of a place shows it. -/
theorem climb_way (e0 : D) (m : Nat) : ∀ (l : List D) (i : Nat) (b : Bool), l.length = m → i < m → climbE m i (l.getD i D.zero) (wayE e0 l i, b) = (rootE e0 l, [], b) := by
  induction m using Nat.strongRecOn with
  | ind m ih =>
    intro l i b hl hi
    by_cases h : 2 ≤ m
    · have h1 := halfE_lt h
      have h2 := halfE_pos m
      subst hl
      by_cases hk : i < halfE l.length
      · rw [climbE_left _ _ h hk, wayE_left e0 h hk, lastE_snoc, rootE_more e0 h]
        have := ih (halfE l.length) h1 (l.take (halfE l.length)) i b (by simp only [List.length_take]; omega) hk
        rw [show (l.take (halfE l.length)).getD i D.zero = l.getD i D.zero by simp [List.getD, hk]] at this
        rw [this]
      · rw [climbE_right _ _ h hk, wayE_right e0 h hk, lastE_snoc, rootE_more e0 h]
        have := ih (l.length - halfE l.length) (by omega) (l.drop (halfE l.length)) (i - halfE l.length) b (by simp only [List.length_drop]) (by omega)
        rw [show (l.drop (halfE l.length)).getD (i - halfE l.length) D.zero = l.getD i D.zero by simp only [List.getD, List.getElem?_drop]; rw [show halfE l.length + (i - halfE l.length) = i by omega]] at this
        rw [this]
    · rw [climbE_one _ _ _ (by omega), wayE_one e0 i (by omega), rootE_of_one e0 (by omega), show i = 0 by omega]
theorem mcheck_way (e0 : D) (l : List D) (i : Nat) (h : i < l.length) : mcheckE (rootE e0 l) l.length i (l.getD i D.zero) (wayE e0 l i) = true := by
  unfold mcheckE
  rw [climb_way e0 l.length l i false rfl h]
  simp [spentE]
/-- The root of the first m, and that of the list; by taking off. -/
def climbOnE (old : D) (m n : Nat) (whole : Bool) (st : List D × Bool) : (D × D) × List D × Bool :=
  if m = n then (if whole then ((old, old), st) else (((lastE st).1, (lastE st).1), (lastE st).2))
  else if _h : 2 ≤ n then
    if m ≤ halfE n then (((climbOnE old m (halfE n) whole (lastE st).2).1.1, pairE (climbOnE old m (halfE n) whole (lastE st).2).1.2 (lastE st).1), (climbOnE old m (halfE n) whole (lastE st).2).2)
    else ((pairE (lastE st).1 (climbOnE old (m - halfE n) (n - halfE n) false (lastE st).2).1.1, pairE (lastE st).1 (climbOnE old (m - halfE n) (n - halfE n) false (lastE st).2).1.2), (climbOnE old (m - halfE n) (n - halfE n) false (lastE st).2).2)
  else ((old, old), st)
termination_by n
decreasing_by all_goals (have := halfE_lt _h; have := halfE_pos n; omega)
theorem climbOnE_whole (old : D) (n : Nat) (st : List D × Bool) : climbOnE old n n true st = ((old, old), st) := by unfold climbOnE; simp
theorem climbOnE_cut (old : D) (n : Nat) (st : List D × Bool) : climbOnE old n n false st = (((lastE st).1, (lastE st).1), (lastE st).2) := by unfold climbOnE; simp
theorem climbOnE_left {old : D} {m n : Nat} {whole : Bool} {st : List D × Bool} (hm : m ≠ n) (h : 2 ≤ n) (hi : m ≤ halfE n) : climbOnE old m n whole st = (((climbOnE old m (halfE n) whole (lastE st).2).1.1, pairE (climbOnE old m (halfE n) whole (lastE st).2).1.2 (lastE st).1), (climbOnE old m (halfE n) whole (lastE st).2).2) := by
  conv => lhs; unfold climbOnE
  rw [if_neg hm, dif_pos h, if_pos hi]
theorem climbOnE_right {old : D} {m n : Nat} {whole : Bool} {st : List D × Bool} (hm : m ≠ n) (h : 2 ≤ n) (hi : ¬ m ≤ halfE n) : climbOnE old m n whole st = ((pairE (lastE st).1 (climbOnE old (m - halfE n) (n - halfE n) false (lastE st).2).1.1, pairE (lastE st).1 (climbOnE old (m - halfE n) (n - halfE n) false (lastE st).2).1.2), (climbOnE old (m - halfE n) (n - halfE n) false (lastE st).2).2) := by
  conv => lhs; unfold climbOnE
  rw [if_neg hm, dif_pos h, if_neg hi]
def onE (old : D) (m n : Nat) (whole : Bool) (p : List D) : D × D × Bool :=
  if m = n then (if whole then (old, old, p.isEmpty) else if p.length = 1 then (p.getD 0 D.zero, p.getD 0 D.zero, true) else (old, old, false))
  else if _h : 2 ≤ n then
    if p = [] then (old, old, false)
    else if m ≤ halfE n then ((onE old m (halfE n) whole p.dropLast).1, pairE (onE old m (halfE n) whole p.dropLast).2.1 (p.getLastD D.zero), (onE old m (halfE n) whole p.dropLast).2.2)
    else (pairE (p.getLastD D.zero) (onE old (m - halfE n) (n - halfE n) false p.dropLast).1, pairE (p.getLastD D.zero) (onE old (m - halfE n) (n - halfE n) false p.dropLast).2.1, (onE old (m - halfE n) (n - halfE n) false p.dropLast).2.2)
  else (old, old, p.isEmpty)
termination_by n
decreasing_by all_goals (have := halfE_lt _h; have := halfE_pos n; omega)
theorem onE_whole (old : D) (n : Nat) (p : List D) : onE old n n true p = (old, old, p.isEmpty) := by unfold onE; simp
theorem onE_cut_one (old : D) (n : Nat) {p : List D} (h : p.length = 1) : onE old n n false p = (p.getD 0 D.zero, p.getD 0 D.zero, true) := by unfold onE; simp [h]
theorem onE_cut_not (old : D) (n : Nat) {p : List D} (h : p.length ≠ 1) : onE old n n false p = (old, old, false) := by unfold onE; simp [h]
theorem onE_nil {old : D} {m n : Nat} {whole : Bool} (hm : m ≠ n) (h : 2 ≤ n) : onE old m n whole [] = (old, old, false) := by unfold onE; rw [if_neg hm, dif_pos h, if_pos rfl]
theorem onE_left {old : D} {m n : Nat} {whole : Bool} {p : List D} (hm : m ≠ n) (h : 2 ≤ n) (hp : p ≠ []) (hi : m ≤ halfE n) : onE old m n whole p = ((onE old m (halfE n) whole p.dropLast).1, pairE (onE old m (halfE n) whole p.dropLast).2.1 (p.getLastD D.zero), (onE old m (halfE n) whole p.dropLast).2.2) := by
  conv => lhs; unfold onE
  rw [if_neg hm, dif_pos h, if_neg hp, if_pos hi]
theorem onE_right {old : D} {m n : Nat} {whole : Bool} {p : List D} (hm : m ≠ n) (h : 2 ≤ n) (hp : p ≠ []) (hi : ¬ m ≤ halfE n) : onE old m n whole p = (pairE (p.getLastD D.zero) (onE old (m - halfE n) (n - halfE n) false p.dropLast).1, pairE (p.getLastD D.zero) (onE old (m - halfE n) (n - halfE n) false p.dropLast).2.1, (onE old (m - halfE n) (n - halfE n) false p.dropLast).2.2) := by
  conv => lhs; unfold onE
  rw [if_neg hm, dif_pos h, if_neg hp, if_neg hi]
theorem climbOnE_short (n : Nat) : ∀ old m whole (p : List D), 1 ≤ m → m ≤ n → (climbOnE old m n whole (p, true)).2.2 = true := by
  induction n using Nat.strongRecOn with
  | ind n ih =>
    intro old m whole p h1m hmn
    have hs := lastE_short p
    have e : (lastE (p, true)).2 = ((lastE (p, true)).2.1, true) := Prod.ext rfl hs
    by_cases hm : m = n
    · subst hm
      cases whole
      · rw [climbOnE_cut]; exact hs
      · rw [climbOnE_whole]
    · have h : 2 ≤ n := by omega
      have h1 := halfE_lt h
      have h2 := halfE_pos n
      by_cases hi : m ≤ halfE n
      · rw [climbOnE_left hm h hi, e]; exact ih _ h1 _ _ _ _ h1m hi
      · rw [climbOnE_right hm h hi, e]; exact ih _ (by omega) _ _ _ _ (by omega) (by omega)
theorem climb_on (n : Nat) : ∀ old m whole (p : List D), 1 ≤ m → m ≤ n → spentE (climbOnE old m n whole (p, false)).2 = (onE old m n whole p).2.2 ∧
    ((onE old m n whole p).2.2 = true → (climbOnE old m n whole (p, false)).1 = ((onE old m n whole p).1, (onE old m n whole p).2.1)) := by
  induction n using Nat.strongRecOn with
  | ind n ih =>
    intro old m whole p h1m hmn
    by_cases hm : m = n
    · subst hm
      cases whole
      · rw [climbOnE_cut]
        by_cases hp : p = []
        · subst hp; rw [onE_cut_not _ _ (by simp), lastE_nil]; exact ⟨rfl, fun h => by cases h⟩
        · rw [lastE_cons hp]
          by_cases h1 : p.length = 1
          · match p, h1 with
            | [d], _ => rw [onE_cut_one _ _ rfl]; exact ⟨rfl, fun _ => rfl⟩
          · rw [onE_cut_not _ _ h1]
            refine ⟨?_, fun h => by cases h⟩
            have : 0 < p.length := List.length_pos_iff.2 hp
            have : p.dropLast ≠ [] := fun h => by
              have := congrArg List.length h
              simp at this; omega
            simp [spentE, this]
      · rw [climbOnE_whole, onE_whole]; exact ⟨by simp [spentE], fun _ => rfl⟩
    · have h : 2 ≤ n := by omega
      have h1 := halfE_lt h
      have h2 := halfE_pos n
      by_cases hp : p = []
      · subst hp
        rw [onE_nil hm h]
        refine ⟨?_, fun hh => by cases hh⟩
        by_cases hi : m ≤ halfE n
        · rw [climbOnE_left hm h hi]; simp [spentE, lastE_nil, climbOnE_short _ _ _ _ _ h1m hi]
        · rw [climbOnE_right hm h hi]; simp [spentE, lastE_nil, climbOnE_short (n - halfE n) old (m - halfE n) false [] (by omega) (by omega)]
      · by_cases hi : m ≤ halfE n
        · obtain ⟨a, b⟩ := ih (halfE n) h1 old m whole p.dropLast h1m hi
          rw [climbOnE_left hm h hi, onE_left hm h hp hi, lastE_cons hp]
          exact ⟨a, fun hh => by rw [b hh]⟩
        · obtain ⟨a, b⟩ := ih (n - halfE n) (by omega) old (m - halfE n) false p.dropLast (by omega) (by omega)
          rw [climbOnE_right hm h hi, onE_right hm h hp hi, lastE_cons hp]
          exact ⟨a, fun hh => by rw [b hh]⟩
theorem on_len (j : Nat) : ∀ n old m whole (p : List D), n ≤ 2 ^ j → 1 ≤ m → m ≤ n → (onE old m n whole p).2.2 = true → p.length ≤ j + 1 := by
  induction j with
  | zero =>
    intro n old m whole p hn h1m hmn h
    have hm : m = n := by have : n ≤ 1 := by simpa using hn
                          omega
    subst hm
    cases whole
    · by_cases h1 : p.length = 1
      · omega
      · rw [onE_cut_not _ _ h1] at h; cases h
    · rw [onE_whole] at h
      have : p = [] := by simpa using h
      subst this; simp
  | succ j ih =>
    intro n old m whole p hn h1m hmn h
    by_cases hm : m = n
    · subst hm
      cases whole
      · by_cases h1 : p.length = 1
        · omega
        · rw [onE_cut_not _ _ h1] at h; cases h
      · rw [onE_whole] at h
        have : p = [] := by simpa using h
        subst this; simp
    · have h2 : 2 ≤ n := by omega
      have hk := halfE_le_pow h2 hn
      have hg := halfE_ge (n := n)
      by_cases hp : p = []
      · subst hp; simp
      · have hl : p.length = p.dropLast.length + 1 := by
          have : 0 < p.length := List.length_pos_iff.2 hp
          simp; omega
        by_cases hi : m ≤ halfE n
        · rw [onE_left hm h2 hp hi] at h
          have := ih _ _ _ _ _ hk h1m hi h
          omega
        · rw [onE_right hm h2 hp hi] at h
          have := ih _ _ _ _ _ (by omega) (by omega) (by omega) h
          omega
def mcheckOnE (old : D) (m : Nat) (root : D) (n : Nat) (p : List D) : Bool :=
  spentE (climbOnE old m n true (p, false)).2 && decide ((climbOnE old m n true (p, false)).1.1 = old) && decide ((climbOnE old m n true (p, false)).1.2 = root)
def rcheckOnE (old : D) (m : Nat) (root : D) (n : Nat) (p : List D) : Bool :=
  (onE old m n true p).2.2 && decide ((onE old m n true p).1 = old) && decide ((onE old m n true p).2.1 = root)
theorem mcheckOn_rcheckOn (old : D) (m : Nat) (root : D) (n : Nat) (p : List D) (h1 : 1 ≤ m) (h2 : m ≤ n) : mcheckOnE old m root n p = rcheckOnE old m root n p := by
  obtain ⟨a, b⟩ := climb_on n old m true p h1 h2
  unfold mcheckOnE rcheckOnE
  rw [a]
  by_cases h : (onE old m n true p).2.2 = true
  · rw [b h]
  · simp [h]
theorem rcheckOn_long (old : D) (m : Nat) (root : D) (n : Nat) (p : List D) (hn : n ≤ 1000) (h1 : 1 ≤ m) (h2 : m ≤ n) (hp : 20 < p.length) : rcheckOnE old m root n p = false := by
  unfold rcheckOnE
  by_cases h : (onE old m n true p).2.2 = true
  · have := on_len 10 n old m true p (by omega) h1 h2 h
    omega
  · simp [h]
/-- The first m of a list that are more than its first half are parted as the list is. -/
theorem root_take (e0 : D) (l : List D) (m : Nat) (_ : 2 ≤ l.length) (hm : m ≤ l.length) (hk : halfE l.length < m) : rootE e0 (l.take m) = pairE (rootE e0 (l.take (halfE l.length))) (rootE e0 ((l.drop (halfE l.length)).take (m - halfE l.length))) := by
  have hg := halfE_ge (n := l.length)
  have hp := halfE_pos l.length
  have hh : halfE m = halfE l.length := by unfold halfE at *; exact halfE_stop hk (by omega)
  have hl : (l.take m).length = m := by simp; omega
  rw [rootE_more e0 (by rw [hl]; omega), hl, hh, List.take_take, Nat.min_eq_left (by omega), List.drop_take]
/-- The proof that a list goes on its first m shows it, of both roots. -/
theorem climb_goes (e0 : D) (n : Nat) : ∀ (l : List D) (m : Nat) (whole : Bool) (b : Bool) (old : D), l.length = n → 1 ≤ m → m ≤ n → (whole = true → old = rootE e0 (l.take m)) →
    climbOnE old m n whole (goesE e0 l m whole, b) = ((rootE e0 (l.take m), rootE e0 l), [], b) := by
  induction n using Nat.strongRecOn with
  | ind n ih =>
    intro l m whole b old hl h1m hmn ho
    by_cases hm : m = n
    · subst hm
      subst hl
      rw [List.take_length] at ho ⊢
      cases whole
      · rw [climbOnE_cut, goesE_cut, show [rootE e0 l] = [] ++ [rootE e0 l] from rfl, lastE_snoc]
      · rw [climbOnE_whole, goesE_all, ho rfl]
    · subst hl
      have h : 2 ≤ l.length := by omega
      have h1 := halfE_lt h
      have h2 := halfE_pos l.length
      by_cases hi : m ≤ halfE l.length
      · rw [climbOnE_left hm h hi, goesE_left e0 h hm hi, lastE_snoc]
        have tt : (l.take (halfE l.length)).take m = l.take m := by rw [List.take_take, Nat.min_eq_left hi]
        have := ih (halfE l.length) h1 (l.take (halfE l.length)) m whole b old (by simp only [List.length_take]; omega) h1m hi (by rw [tt]; exact ho)
        rw [this, tt, ← rootE_more e0 h]
      · rw [climbOnE_right hm h hi, goesE_right e0 h hm hi, lastE_snoc]
        have := ih (l.length - halfE l.length) (by omega) (l.drop (halfE l.length)) (m - halfE l.length) false b old (by simp only [List.length_drop]) (by omega) (by omega) (fun hh => by cases hh)
        rw [this, ← root_take e0 l m h hmn (by omega), ← rootE_more e0 h]
theorem mcheckOn_goes (e0 : D) (l : List D) (m : Nat) (h1 : 1 ≤ m) (h2 : m ≤ l.length) : mcheckOnE (rootE e0 (l.take m)) m (rootE e0 l) l.length (goesE e0 l m true) = true := by
  unfold mcheckOnE
  rw [climb_goes e0 l.length l m true false _ rfl h1 h2 (fun _ => rfl)]
  simp [spentE]
end Go.Proofs.YtjokaennipmmaaaDoor
/- Two pairs with one digest, told of two lists with one root, as a plain function; no program is named here. -/
namespace Go.Proofs.YtjokaennipmmaaaDoor
open Go.RowKit
section
variable (e0 : D)
/-- Both halves' roots. -/
def halvesE (l : List D) : D × D := (rootE e0 (l.take (halfE l.length)), rootE e0 (l.drop (halfE l.length)))
def noClash : (D × D) × (D × D) × Bool := ((D.zero, D.zero), (D.zero, D.zero), false)
def clashF (a b : List D) : (D × D) × (D × D) × Bool :=
  if _h : 2 ≤ a.length then
    if halvesE e0 a ≠ halvesE e0 b then (halvesE e0 a, halvesE e0 b, true)
    else if a.take (halfE a.length) ≠ b.take (halfE a.length) then clashF (a.take (halfE a.length)) (b.take (halfE a.length))
    else clashF (a.drop (halfE a.length)) (b.drop (halfE a.length))
  else noClash
termination_by a.length
decreasing_by
  · have := halfE_lt _h; have := halfE_pos a.length; simp only [List.length_take]; omega
  · have := halfE_lt _h; have := halfE_pos a.length; simp only [List.length_drop]; omega
theorem clashF_one {a : List D} (b : List D) (h : a.length < 2) : clashF e0 a b = noClash := by unfold clashF; rw [dif_neg (by omega)]
theorem clashF_hit {a b : List D} (h : 2 ≤ a.length) (hx : halvesE e0 a ≠ halvesE e0 b) : clashF e0 a b = (halvesE e0 a, halvesE e0 b, true) := by
  conv => lhs; unfold clashF
  rw [dif_pos h, if_pos hx]
theorem clashF_left {a b : List D} (h : 2 ≤ a.length) (hx : halvesE e0 a = halvesE e0 b) (hy : a.take (halfE a.length) ≠ b.take (halfE a.length)) : clashF e0 a b = clashF e0 (a.take (halfE a.length)) (b.take (halfE a.length)) := by
  conv => lhs; unfold clashF
  rw [dif_pos h, if_neg (by simp [hx]), if_pos hy]
theorem clashF_right {a b : List D} (h : 2 ≤ a.length) (hx : halvesE e0 a = halvesE e0 b) (hy : a.take (halfE a.length) = b.take (halfE a.length)) : clashF e0 a b = clashF e0 (a.drop (halfE a.length)) (b.drop (halfE a.length)) := by
  conv => lhs; unfold clashF
  rw [dif_pos h, if_neg (by simp [hx]), if_neg (by simp [hy])]
/-- Unlike lists of one length, with one root. -/
def clashes (a b : List D) : Prop := a.length = b.length ∧ a ≠ b ∧ rootE e0 a = rootE e0 b
instance (a b : List D) : Decidable (clashes e0 a b) := by unfold clashes; infer_instance
def clashE (a b : List D) : (D × D) × (D × D) × Bool := if clashes e0 a b then clashF e0 a b else noClash
theorem clashes_long {a b : List D} (h : clashes e0 a b) : 2 ≤ a.length := by
  obtain ⟨h1, h2, h3⟩ := h
  rcases Nat.lt_or_ge a.length 2 with hl | hl
  · exfalso
    have hc : a.length = 0 ∨ a.length = 1 := by omega
    rcases hc with hc | hc
    · exact h2 (by rw [List.eq_nil_of_length_eq_zero hc, List.eq_nil_of_length_eq_zero (by omega : b.length = 0)])
    · match a, b, hc, (by omega : b.length = 1) with
      | [x], [y], _, _ =>
        rw [rootE_one, rootE_one] at h3
        exact h2 (by rw [h3])
  · exact hl
theorem clashes_left {a b : List D} (h : clashes e0 a b) (hx : halvesE e0 a = halvesE e0 b) (hy : a.take (halfE a.length) ≠ b.take (halfE a.length)) : clashes e0 (a.take (halfE a.length)) (b.take (halfE a.length)) := by
  refine ⟨by simp only [List.length_take]; rw [h.1], hy, ?_⟩
  have := congrArg Prod.fst hx
  simp only [halvesE] at this
  rw [h.1] at this ⊢
  exact this
theorem clashes_right {a b : List D} (h : clashes e0 a b) (hx : halvesE e0 a = halvesE e0 b) (hy : a.take (halfE a.length) = b.take (halfE a.length)) : clashes e0 (a.drop (halfE a.length)) (b.drop (halfE a.length)) := by
  refine ⟨by simp only [List.length_drop]; rw [h.1], fun hd => h.2.1 ?_, ?_⟩
  · rw [← List.take_append_drop (halfE a.length) a, hy, hd, List.take_append_drop]
  · have := congrArg Prod.snd hx
    simp only [halvesE] at this
    rw [h.1] at this ⊢
    exact this
theorem clashE_no {a b : List D} (h : ¬ clashes e0 a b) : clashE e0 a b = noClash := by unfold clashE; rw [if_neg h]
theorem clashE_yes {a b : List D} (h : clashes e0 a b) : clashE e0 a b = clashF e0 a b := by unfold clashE; rw [if_pos h]
theorem clashE_hit {a b : List D} (h : clashes e0 a b) (hx : halvesE e0 a ≠ halvesE e0 b) : clashE e0 a b = (halvesE e0 a, halvesE e0 b, true) := by
  rw [clashE_yes e0 h, clashF_hit e0 (clashes_long e0 h) hx]
theorem clashE_left {a b : List D} (h : clashes e0 a b) (hx : halvesE e0 a = halvesE e0 b) (hy : a.take (halfE a.length) ≠ b.take (halfE a.length)) : clashE e0 a b = clashE e0 (a.take (halfE a.length)) (b.take (halfE a.length)) := by
  rw [clashE_yes e0 h, clashE_yes e0 (clashes_left e0 h hx hy), clashF_left e0 (clashes_long e0 h) hx hy]
theorem clashE_right {a b : List D} (h : clashes e0 a b) (hx : halvesE e0 a = halvesE e0 b) (hy : a.take (halfE a.length) = b.take (halfE a.length)) : clashE e0 a b = clashE e0 (a.drop (halfE a.length)) (b.drop (halfE a.length)) := by
  rw [clashE_yes e0 h, clashE_yes e0 (clashes_right e0 h hx hy), clashF_right e0 (clashes_long e0 h) hx hy]
/-- What is told is a clash. -/
theorem clashF_spec (n : Nat) : ∀ a b, a.length = n → clashes e0 a b → (clashF e0 a b).2.2 = true ∧ (clashF e0 a b).1 ≠ (clashF e0 a b).2.1 ∧ pairE (clashF e0 a b).1.1 (clashF e0 a b).1.2 = pairE (clashF e0 a b).2.1.1 (clashF e0 a b).2.1.2 := by
  induction n using Nat.strongRecOn with
  | ind n ih =>
    intro a b hn h
    have h2 := clashes_long e0 h
    have h1 := halfE_lt h2
    have h0 := halfE_pos a.length
    by_cases hx : halvesE e0 a = halvesE e0 b
    · by_cases hy : a.take (halfE a.length) = b.take (halfE a.length)
      · rw [clashF_right e0 h2 hx hy]
        exact ih _ (by simp only [List.length_drop]; omega) _ _ rfl (clashes_right e0 h hx hy)
      · rw [clashF_left e0 h2 hx hy]
        exact ih _ (by simp only [List.length_take]; omega) _ _ rfl (clashes_left e0 h hx hy)
    · rw [clashF_hit e0 h2 hx]
      refine ⟨rfl, hx, ?_⟩
      have hb : 2 ≤ b.length := by rw [← h.1]; exact h2
      have := h.2.2
      rw [rootE_more e0 h2, rootE_more e0 hb] at this
      unfold halvesE
      exact this
theorem clashE_spec {a b : List D} (h : clashes e0 a b) : (clashE e0 a b).2.2 = true ∧ (clashE e0 a b).1 ≠ (clashE e0 a b).2.1 ∧ pairE (clashE e0 a b).1.1 (clashE e0 a b).1.2 = pairE (clashE e0 a b).2.1.1 (clashE e0 a b).2.1.2 := by
  rw [clashE_yes e0 h]
  exact clashF_spec e0 _ a b rfl h
end
end Go.Proofs.YtjokaennipmmaaaDoor
/- Another leaf, or a proof with one more or one less: refused, or two unlike pairs with one digest stand on the way; plain functions, no program is named here. -/
namespace Go.Proofs.YtjokaennipmmaaaDoor
open Go.RowKit
/-- How many a proof has. -/
def depE (n i : Nat) : Nat :=
  if h : 2 ≤ n then (if i < halfE n then depE (halfE n) i + 1 else depE (n - halfE n) (i - halfE n) + 1) else 0
termination_by n
decreasing_by all_goals (have := halfE_lt h; have := halfE_pos n; omega)
theorem depE_one {n : Nat} (i : Nat) (h : n < 2) : depE n i = 0 := by unfold depE; rw [dif_neg (by omega)]
theorem depE_left {n i : Nat} (h : 2 ≤ n) (hi : i < halfE n) : depE n i = depE (halfE n) i + 1 := by
  conv => lhs; unfold depE
  rw [dif_pos h, if_pos hi]
theorem depE_right {n i : Nat} (h : 2 ≤ n) (hi : ¬ i < halfE n) : depE n i = depE (n - halfE n) (i - halfE n) + 1 := by
  conv => lhs; unfold depE
  rw [dif_pos h, if_neg hi]
theorem up_dep (n : Nat) : ∀ i leaf (p : List D), (upE n i leaf p).2 = decide (p.length = depE n i) := by
  induction n using Nat.strongRecOn with
  | ind n ih =>
    intro i leaf p
    by_cases h : 2 ≤ n
    · have h1 := halfE_lt h
      have h2 := halfE_pos n
      by_cases hp : p = []
      · subst hp
        rw [upE_nil i leaf h]
        have : depE n i ≠ 0 := by
          by_cases hi : i < halfE n
          · rw [depE_left h hi]; omega
          · rw [depE_right h hi]; omega
        simp; omega
      · have hl : p.length = p.dropLast.length + 1 := by
          have : 0 < p.length := List.length_pos_iff.2 hp
          simp; omega
        by_cases hi : i < halfE n
        · rw [upE_left leaf h hp hi, depE_left h hi]
          simp only [ih _ h1]
          rw [hl]; simp
        · rw [upE_right leaf h hp hi, depE_right h hi]
          simp only [ih _ (show n - halfE n < n by omega)]
          rw [hl]; simp
    · rw [upE_one i leaf _ (by omega), depE_one i (by omega)]
      cases p <;> simp
theorem way_dep (e0 : D) (n : Nat) : ∀ (l : List D) i, l.length = n → (wayE e0 l i).length = depE n i := by
  induction n using Nat.strongRecOn with
  | ind n ih =>
    intro l i hl
    subst hl
    by_cases h : 2 ≤ l.length
    · have h1 := halfE_lt h
      have h2 := halfE_pos l.length
      by_cases hi : i < halfE l.length
      · rw [wayE_left e0 h hi, depE_left h hi, List.length_append, ih _ h1 _ i (by simp only [List.length_take]; omega)]; rfl
      · rw [wayE_right e0 h hi, depE_right h hi, List.length_append, ih (l.length - halfE l.length) (by omega) _ _ (by simp only [List.length_drop])]; rfl
    · rw [wayE_one e0 i (by omega), depE_one i (by omega)]; rfl
theorem mcheck_dep {root : D} {n i : Nat} {leaf : D} {p : List D} (h : p.length ≠ depE n i) : mcheckE root n i leaf p = false := by
  rw [mcheck_rcheck]
  unfold rcheckE
  rw [up_dep, decide_eq_false h]; rfl
section
variable (e0 : D)
def fooledE (l : List D) (i : Nat) (leaf : D) (p : List D) : Bool :=
  if _h : 2 ≤ l.length then
    if p = [] then false
    else if i < halfE l.length then
      (decide ((rootE e0 (l.take (halfE l.length)), rootE e0 (l.drop (halfE l.length))) ≠ ((upE (halfE l.length) i leaf p.dropLast).1, p.getLastD D.zero)) &&
        decide (pairE (rootE e0 (l.take (halfE l.length))) (rootE e0 (l.drop (halfE l.length))) = pairE (upE (halfE l.length) i leaf p.dropLast).1 (p.getLastD D.zero))) ||
      fooledE (l.take (halfE l.length)) i leaf p.dropLast
    else
      (decide ((rootE e0 (l.take (halfE l.length)), rootE e0 (l.drop (halfE l.length))) ≠ (p.getLastD D.zero, (upE (l.length - halfE l.length) (i - halfE l.length) leaf p.dropLast).1)) &&
        decide (pairE (rootE e0 (l.take (halfE l.length))) (rootE e0 (l.drop (halfE l.length))) = pairE (p.getLastD D.zero) (upE (l.length - halfE l.length) (i - halfE l.length) leaf p.dropLast).1)) ||
      fooledE (l.drop (halfE l.length)) (i - halfE l.length) leaf p.dropLast
  else false
termination_by l.length
decreasing_by
  · have := halfE_lt _h; have := halfE_pos l.length; simp only [List.length_take]; omega
  · have := halfE_lt _h; have := halfE_pos l.length; simp only [List.length_drop]; omega
theorem fooledE_one {l : List D} (i : Nat) (leaf : D) (p : List D) (h : l.length < 2) : fooledE e0 l i leaf p = false := by unfold fooledE; rw [dif_neg (by omega)]
theorem fooledE_nil {l : List D} (i : Nat) (leaf : D) : fooledE e0 l i leaf [] = false := by
  unfold fooledE
  by_cases h : 2 ≤ l.length
  · rw [dif_pos h, if_pos rfl]
  · rw [dif_neg h]
theorem fooledE_left {l : List D} {i : Nat} (leaf : D) {p : List D} (h : 2 ≤ l.length) (hp : p ≠ []) (hi : i < halfE l.length) : fooledE e0 l i leaf p =
    ((decide ((rootE e0 (l.take (halfE l.length)), rootE e0 (l.drop (halfE l.length))) ≠ ((upE (halfE l.length) i leaf p.dropLast).1, p.getLastD D.zero)) &&
        decide (pairE (rootE e0 (l.take (halfE l.length))) (rootE e0 (l.drop (halfE l.length))) = pairE (upE (halfE l.length) i leaf p.dropLast).1 (p.getLastD D.zero))) ||
      fooledE e0 (l.take (halfE l.length)) i leaf p.dropLast) := by
  conv => lhs; unfold fooledE
  rw [dif_pos h, if_neg hp, if_pos hi]
theorem fooledE_right {l : List D} {i : Nat} (leaf : D) {p : List D} (h : 2 ≤ l.length) (hp : p ≠ []) (hi : ¬ i < halfE l.length) : fooledE e0 l i leaf p =
    ((decide ((rootE e0 (l.take (halfE l.length)), rootE e0 (l.drop (halfE l.length))) ≠ (p.getLastD D.zero, (upE (l.length - halfE l.length) (i - halfE l.length) leaf p.dropLast).1)) &&
        decide (pairE (rootE e0 (l.take (halfE l.length))) (rootE e0 (l.drop (halfE l.length))) = pairE (p.getLastD D.zero) (upE (l.length - halfE l.length) (i - halfE l.length) leaf p.dropLast).1)) ||
      fooledE e0 (l.drop (halfE l.length)) (i - halfE l.length) leaf p.dropLast) := by
  conv => lhs; unfold fooledE
  rw [dif_pos h, if_neg hp, if_neg hi]
/-- Another leaf that is shown to be there fools: two unlike pairs on the way have one digest. -/
theorem fooled_spec (n : Nat) : ∀ (l : List D) i leaf (p : List D), l.length = n → i < n → leaf ≠ l.getD i D.zero → (upE n i leaf p).2 = true → (upE n i leaf p).1 = rootE e0 l → fooledE e0 l i leaf p = true := by
  induction n using Nat.strongRecOn with
  | ind n ih =>
    intro l i leaf p hl hi hne hok hx
    subst hl
    by_cases h : 2 ≤ l.length
    · have h1 := halfE_lt h
      have h2 := halfE_pos l.length
      by_cases hp : p = []
      · subst hp; rw [upE_nil i leaf h] at hok; cases hok
      · by_cases hk : i < halfE l.length
        · rw [upE_left leaf h hp hk] at hok hx
          rw [rootE_more e0 h] at hx
          rw [fooledE_left e0 leaf h hp hk]
          by_cases he : (rootE e0 (l.take (halfE l.length)), rootE e0 (l.drop (halfE l.length))) = ((upE (halfE l.length) i leaf p.dropLast).1, p.getLastD D.zero)
          · have e1 := congrArg Prod.fst he
            have := ih (halfE l.length) h1 (l.take (halfE l.length)) i leaf p.dropLast (by simp only [List.length_take]; omega) hk (by simpa [List.getD, hk] using hne) hok e1.symm
            rw [this, Bool.or_true]
          · rw [decide_eq_true he, decide_eq_true hx.symm]; rfl
        · rw [upE_right leaf h hp hk] at hok hx
          rw [rootE_more e0 h] at hx
          rw [fooledE_right e0 leaf h hp hk]
          by_cases he : (rootE e0 (l.take (halfE l.length)), rootE e0 (l.drop (halfE l.length))) = (p.getLastD D.zero, (upE (l.length - halfE l.length) (i - halfE l.length) leaf p.dropLast).1)
          · have e1 := congrArg Prod.snd he
            have hg : (l.drop (halfE l.length)).getD (i - halfE l.length) D.zero = l.getD i D.zero := by simp only [List.getD, List.getElem?_drop]; rw [show halfE l.length + (i - halfE l.length) = i by omega]
            have := ih (l.length - halfE l.length) (by omega) (l.drop (halfE l.length)) (i - halfE l.length) leaf p.dropLast (by simp only [List.length_drop]) (by omega) (by rw [hg]; exact hne) hok e1.symm
            rw [this, Bool.or_true]
          · rw [decide_eq_true he, decide_eq_true hx.symm]; rfl
    · exfalso
      rw [upE_one i leaf _ (by omega)] at hx
      apply hne
      rw [show i = 0 by omega, ← rootE_of_one e0 (by omega)]
      exact hx
theorem fooled_check {l : List D} {i : Nat} {leaf : D} {p : List D} (hi : i < l.length) (hne : leaf ≠ l.getD i D.zero) (h : mcheckE (rootE e0 l) l.length i leaf p = true) : fooledE e0 l i leaf p = true := by
  rw [mcheck_rcheck] at h
  unfold rcheckE at h
  simp only [Bool.and_eq_true, decide_eq_true_eq] at h
  exact fooled_spec e0 _ l i leaf p rfl hi hne h.1 h.2
end
end Go.Proofs.YtjokaennipmmaaaDoor
