import Derived.Test.YtddggjmfplohkaaDoorPb
/- The reader: signs between expressions. -/
namespace Go.Proofs.YtddggjmfplohkaaDoor
open Go Go.RowKit
/-- A sign's kind, operation, strength. -/
def signE (s : ByteArray) : Int × Int × Int :=
  if s = (⟨#[124, 124]⟩ : ByteArray) then (9, 0, 1) else
  if s = (⟨#[38, 38]⟩ : ByteArray) then (8, 0, 2) else
  if s = (⟨#[61, 61]⟩ : ByteArray) then (6, 15, 3) else
  if s = (⟨#[60]⟩ : ByteArray) then (6, 14, 4) else
  if s = (⟨#[124]⟩ : ByteArray) then (6, 10, 5) else
  if s = (⟨#[94]⟩ : ByteArray) then (6, 11, 5) else
  if s = (⟨#[38]⟩ : ByteArray) then (6, 9, 6) else
  if s = (⟨#[60, 60]⟩ : ByteArray) then (6, 12, 7) else
  if s = (⟨#[62, 62]⟩ : ByteArray) then (6, 13, 7) else
  if s = (⟨#[43]⟩ : ByteArray) then (6, 4, 8) else
  if s = (⟨#[45]⟩ : ByteArray) then (6, 5, 8) else
  if s = (⟨#[42]⟩ : ByteArray) then (6, 6, 9) else
  if s = (⟨#[47]⟩ : ByteArray) then (6, 7, 9) else
  if s = (⟨#[37]⟩ : ByteArray) then (6, 8, 9) else
  (0, 0, 0)
set_option maxHeartbeats 2000000 in
set_option maxRecDepth 100000 in
theorem s_sign1 (op : Int) : Spec (Ctx.mk Tryd.prog globU 7 LaidU) 102 [.v (.int .i64 op)] [] (.agg (exC (.mk 6 op 0 ByteArray.empty []))) [] := by
  refine spec_of_bodyL CX_mixed CU_gpk Tryd.func102 rfl 5 0 rfl rfl rfl rfl ?_
  refine go_ ?_
  refine ev_ ?_
  exact .mk (by rfl) trivial
set_option maxHeartbeats 8000000 in
set_option maxRecDepth 100000 in
theorem s_psign (s : ByteArray) : Spec (Ctx.mk Tryd.prog globU 7 LaidU) 100 [.v (.string s)] [] (.tup [.agg (exC (.mk (signE s).1 (signE s).2.1 0 ByteArray.empty [])), .v (.int .i64 (signE s).2.2)]) [] := by
  refine spec_of_bodyL CX_mixed CU_gpk Tryd.func100 rfl 61 0 rfl rfl rfl rfl ?_
  refine go_ ?_
  by_cases h0 : s = (⟨#[124, 124]⟩ : ByteArray)
  · have g0 : decide (s = (⟨#[124, 124]⟩ : ByteArray)) = true := decide_eq_true h0
    have e : signE s = (9, 0, 1) := by unfold signE; rw [if_pos h0]
    rw [e]
    refine go_ ?_
    refine ev_ ?_
    exact .mk (by rfl) trivial
  have g0 : decide (s = (⟨#[124, 124]⟩ : ByteArray)) = false := decide_eq_false h0
  refine go_ ?_
  by_cases h1 : s = (⟨#[38, 38]⟩ : ByteArray)
  · have g1 : decide (s = (⟨#[38, 38]⟩ : ByteArray)) = true := decide_eq_true h1
    have e : signE s = (8, 0, 2) := by unfold signE; rw [if_neg h0, if_pos h1]
    rw [e]
    refine go_ ?_
    refine ev_ ?_
    exact .mk (by rfl) trivial
  have g1 : decide (s = (⟨#[38, 38]⟩ : ByteArray)) = false := decide_eq_false h1
  refine go_ ?_
  by_cases h2 : s = (⟨#[61, 61]⟩ : ByteArray)
  · have g2 : decide (s = (⟨#[61, 61]⟩ : ByteArray)) = true := decide_eq_true h2
    have e : signE s = (6, 15, 3) := by unfold signE; rw [if_neg h0, if_neg h1, if_pos h2]
    rw [e]
    refine go_ ?_
    with_reducible apply run_y
    exact want_
    · intro K hK
      refine ev_ ?_
      refine vcCall_plain (s_sign1 15) (by kernel_rfl) ?_
      refine ev_ ?_
      exact hK
    refine go_ ?_
    refine ev_ ?_
    exact .mk (by rfl) trivial
  have g2 : decide (s = (⟨#[61, 61]⟩ : ByteArray)) = false := decide_eq_false h2
  refine go_ ?_
  by_cases h3 : s = (⟨#[60]⟩ : ByteArray)
  · have g3 : decide (s = (⟨#[60]⟩ : ByteArray)) = true := decide_eq_true h3
    have e : signE s = (6, 14, 4) := by unfold signE; rw [if_neg h0, if_neg h1, if_neg h2, if_pos h3]
    rw [e]
    refine go_ ?_
    with_reducible apply run_y
    exact want_
    · intro K hK
      refine ev_ ?_
      refine vcCall_plain (s_sign1 14) (by kernel_rfl) ?_
      refine ev_ ?_
      exact hK
    refine go_ ?_
    refine ev_ ?_
    exact .mk (by rfl) trivial
  have g3 : decide (s = (⟨#[60]⟩ : ByteArray)) = false := decide_eq_false h3
  refine go_ ?_
  by_cases h4 : s = (⟨#[124]⟩ : ByteArray)
  · have g4 : decide (s = (⟨#[124]⟩ : ByteArray)) = true := decide_eq_true h4
    have e : signE s = (6, 10, 5) := by unfold signE; rw [if_neg h0, if_neg h1, if_neg h2, if_neg h3, if_pos h4]
    rw [e]
    refine go_ ?_
    with_reducible apply run_y
    exact want_
    · intro K hK
      refine ev_ ?_
      refine vcCall_plain (s_sign1 10) (by kernel_rfl) ?_
      refine ev_ ?_
      exact hK
    refine go_ ?_
    refine ev_ ?_
    exact .mk (by rfl) trivial
  have g4 : decide (s = (⟨#[124]⟩ : ByteArray)) = false := decide_eq_false h4
  refine go_ ?_
  by_cases h5 : s = (⟨#[94]⟩ : ByteArray)
  · have g5 : decide (s = (⟨#[94]⟩ : ByteArray)) = true := decide_eq_true h5
    have e : signE s = (6, 11, 5) := by unfold signE; rw [if_neg h0, if_neg h1, if_neg h2, if_neg h3, if_neg h4, if_pos h5]
    rw [e]
    refine go_ ?_
    with_reducible apply run_y
    exact want_
    · intro K hK
      refine ev_ ?_
      refine vcCall_plain (s_sign1 11) (by kernel_rfl) ?_
      refine ev_ ?_
      exact hK
    refine go_ ?_
    refine ev_ ?_
    exact .mk (by rfl) trivial
  have g5 : decide (s = (⟨#[94]⟩ : ByteArray)) = false := decide_eq_false h5
  refine go_ ?_
  by_cases h6 : s = (⟨#[38]⟩ : ByteArray)
  · have g6 : decide (s = (⟨#[38]⟩ : ByteArray)) = true := decide_eq_true h6
    have e : signE s = (6, 9, 6) := by unfold signE; rw [if_neg h0, if_neg h1, if_neg h2, if_neg h3, if_neg h4, if_neg h5, if_pos h6]
    rw [e]
    refine go_ ?_
    with_reducible apply run_y
    exact want_
    · intro K hK
      refine ev_ ?_
      refine vcCall_plain (s_sign1 9) (by kernel_rfl) ?_
      refine ev_ ?_
      exact hK
    refine go_ ?_
    refine ev_ ?_
    exact .mk (by rfl) trivial
  have g6 : decide (s = (⟨#[38]⟩ : ByteArray)) = false := decide_eq_false h6
  refine go_ ?_
  by_cases h7 : s = (⟨#[60, 60]⟩ : ByteArray)
  · have g7 : decide (s = (⟨#[60, 60]⟩ : ByteArray)) = true := decide_eq_true h7
    have e : signE s = (6, 12, 7) := by unfold signE; rw [if_neg h0, if_neg h1, if_neg h2, if_neg h3, if_neg h4, if_neg h5, if_neg h6, if_pos h7]
    rw [e]
    refine go_ ?_
    with_reducible apply run_y
    exact want_
    · intro K hK
      refine ev_ ?_
      refine vcCall_plain (s_sign1 12) (by kernel_rfl) ?_
      refine ev_ ?_
      exact hK
    refine go_ ?_
    refine ev_ ?_
    exact .mk (by rfl) trivial
  have g7 : decide (s = (⟨#[60, 60]⟩ : ByteArray)) = false := decide_eq_false h7
  refine go_ ?_
  by_cases h8 : s = (⟨#[62, 62]⟩ : ByteArray)
  · have g8 : decide (s = (⟨#[62, 62]⟩ : ByteArray)) = true := decide_eq_true h8
    have e : signE s = (6, 13, 7) := by unfold signE; rw [if_neg h0, if_neg h1, if_neg h2, if_neg h3, if_neg h4, if_neg h5, if_neg h6, if_neg h7, if_pos h8]
    rw [e]
    refine go_ ?_
    with_reducible apply run_y
    exact want_
    · intro K hK
      refine ev_ ?_
      refine vcCall_plain (s_sign1 13) (by kernel_rfl) ?_
      refine ev_ ?_
      exact hK
    refine go_ ?_
    refine ev_ ?_
    exact .mk (by rfl) trivial
  have g8 : decide (s = (⟨#[62, 62]⟩ : ByteArray)) = false := decide_eq_false h8
  refine go_ ?_
  by_cases h9 : s = (⟨#[43]⟩ : ByteArray)
  · have g9 : decide (s = (⟨#[43]⟩ : ByteArray)) = true := decide_eq_true h9
    have e : signE s = (6, 4, 8) := by unfold signE; rw [if_neg h0, if_neg h1, if_neg h2, if_neg h3, if_neg h4, if_neg h5, if_neg h6, if_neg h7, if_neg h8, if_pos h9]
    rw [e]
    refine go_ ?_
    with_reducible apply run_y
    exact want_
    · intro K hK
      refine ev_ ?_
      refine vcCall_plain (s_sign1 4) (by kernel_rfl) ?_
      refine ev_ ?_
      exact hK
    refine go_ ?_
    refine ev_ ?_
    exact .mk (by rfl) trivial
  have g9 : decide (s = (⟨#[43]⟩ : ByteArray)) = false := decide_eq_false h9
  refine go_ ?_
  by_cases h10 : s = (⟨#[45]⟩ : ByteArray)
  · have g10 : decide (s = (⟨#[45]⟩ : ByteArray)) = true := decide_eq_true h10
    have e : signE s = (6, 5, 8) := by unfold signE; rw [if_neg h0, if_neg h1, if_neg h2, if_neg h3, if_neg h4, if_neg h5, if_neg h6, if_neg h7, if_neg h8, if_neg h9, if_pos h10]
    rw [e]
    refine go_ ?_
    with_reducible apply run_y
    exact want_
    · intro K hK
      refine ev_ ?_
      refine vcCall_plain (s_sign1 5) (by kernel_rfl) ?_
      refine ev_ ?_
      exact hK
    refine go_ ?_
    refine ev_ ?_
    exact .mk (by rfl) trivial
  have g10 : decide (s = (⟨#[45]⟩ : ByteArray)) = false := decide_eq_false h10
  refine go_ ?_
  by_cases h11 : s = (⟨#[42]⟩ : ByteArray)
  · have g11 : decide (s = (⟨#[42]⟩ : ByteArray)) = true := decide_eq_true h11
    have e : signE s = (6, 6, 9) := by unfold signE; rw [if_neg h0, if_neg h1, if_neg h2, if_neg h3, if_neg h4, if_neg h5, if_neg h6, if_neg h7, if_neg h8, if_neg h9, if_neg h10, if_pos h11]
    rw [e]
    refine go_ ?_
    with_reducible apply run_y
    exact want_
    · intro K hK
      refine ev_ ?_
      refine vcCall_plain (s_sign1 6) (by kernel_rfl) ?_
      refine ev_ ?_
      exact hK
    refine go_ ?_
    refine ev_ ?_
    exact .mk (by rfl) trivial
  have g11 : decide (s = (⟨#[42]⟩ : ByteArray)) = false := decide_eq_false h11
  refine go_ ?_
  by_cases h12 : s = (⟨#[47]⟩ : ByteArray)
  · have g12 : decide (s = (⟨#[47]⟩ : ByteArray)) = true := decide_eq_true h12
    have e : signE s = (6, 7, 9) := by unfold signE; rw [if_neg h0, if_neg h1, if_neg h2, if_neg h3, if_neg h4, if_neg h5, if_neg h6, if_neg h7, if_neg h8, if_neg h9, if_neg h10, if_neg h11, if_pos h12]
    rw [e]
    refine go_ ?_
    with_reducible apply run_y
    exact want_
    · intro K hK
      refine ev_ ?_
      refine vcCall_plain (s_sign1 7) (by kernel_rfl) ?_
      refine ev_ ?_
      exact hK
    refine go_ ?_
    refine ev_ ?_
    exact .mk (by rfl) trivial
  have g12 : decide (s = (⟨#[47]⟩ : ByteArray)) = false := decide_eq_false h12
  refine go_ ?_
  by_cases h13 : s = (⟨#[37]⟩ : ByteArray)
  · have g13 : decide (s = (⟨#[37]⟩ : ByteArray)) = true := decide_eq_true h13
    have e : signE s = (6, 8, 9) := by unfold signE; rw [if_neg h0, if_neg h1, if_neg h2, if_neg h3, if_neg h4, if_neg h5, if_neg h6, if_neg h7, if_neg h8, if_neg h9, if_neg h10, if_neg h11, if_neg h12, if_pos h13]
    rw [e]
    refine go_ ?_
    with_reducible apply run_y
    exact want_
    · intro K hK
      refine ev_ ?_
      refine vcCall_plain (s_sign1 8) (by kernel_rfl) ?_
      refine ev_ ?_
      exact hK
    refine go_ ?_
    refine ev_ ?_
    exact .mk (by rfl) trivial
  have g13 : decide (s = (⟨#[37]⟩ : ByteArray)) = false := decide_eq_false h13
  refine go_ ?_
  have e : signE s = (0, 0, 0) := by unfold signE; rw [if_neg h0, if_neg h1, if_neg h2, if_neg h3, if_neg h4, if_neg h5, if_neg h6, if_neg h7, if_neg h8, if_neg h9, if_neg h10, if_neg h11, if_neg h12, if_neg h13]
  rw [e]
  refine ev_ ?_
  exact .mk (by rfl) trivial
end Go.Proofs.YtddggjmfplohkaaDoor

/- The reader: expressions, in plain Lean. -/
namespace Go.Proofs.YtddggjmfplohkaaDoor
open Go Go.RowKit
/- Expressions read: what, and how far; with so much fuel. -/
mutual
def exprE (l : List Tk) : Nat → Nat → Int → Option (Ex × Nat)
  | 0, _, _ => none
  | f + 1, i, least => match atomE l f i with
    | none => none
    | some (x, j) => loopE l f x j least
def loopE (l : List Tk) : Nat → Ex → Nat → Int → Option (Ex × Nat)
  | 0, _, _, _ => none
  | f + 1, x, j, least =>
    if (signE (peekE l j)).2.2 < least then some (x, j)
    else match exprE l f (j + 1) ((signE (peekE l j)).2.2 + 1) with
      | none => none
      | some (y, k) => loopE l f (.mk (signE (peekE l j)).1 (signE (peekE l j)).2.1 0 ByteArray.empty [x, y]) k least
def atomE (l : List Tk) : Nat → Nat → Option (Ex × Nat)
  | 0, _ => none
  | f + 1, i =>
    if kindE l i = 2 then (match takeE l i 2 with
      | none => none
      | some (t, j) => some (.mk 1 0 t.num ByteArray.empty [], j))
    else if peekE l i = (⟨#[103, 101, 116]⟩ : ByteArray) then (match mustE l [⟨#[40]⟩, ⟨#[41]⟩] (i + 1) with
      | none => none
      | some j => some (.mk 5 0 0 ByteArray.empty [], j))
    else if peekE l i = (⟨#[40]⟩ : ByteArray) then (match exprE l f (i + 1) 1 with
      | none => none
      | some (x, j) => match mustE l [⟨#[41]⟩] j with
        | none => none
        | some k => some (x, k))
    else if peekE l i = (⟨#[33]⟩ : ByteArray) then (match atomE l f (i + 1) with
      | none => none
      | some (x, j) => some (.mk 7 0 0 ByteArray.empty [x], j))
    else match takeE l i 1 with
      | none => none
      | some (t, j) =>
        if peekE l j = (⟨#[91]⟩ : ByteArray) then (match exprE l f (j + 1) 1 with
          | none => none
          | some (x, k) => match mustE l [⟨#[93]⟩] k with
            | none => none
            | some n => some (.mk 3 0 0 t.text [x], n))
        else if peekE l j = (⟨#[40]⟩ : ByteArray) then (match argsE l f (j + 1) with
          | none => none
          | some (xs, k) => some (.mk 4 0 0 t.text xs, k))
        else some (.mk 2 0 0 t.text [], j)
def argsE (l : List Tk) : Nat → Nat → Option (List Ex × Nat)
  | 0, _ => none
  | f + 1, i =>
    if peekE l i = (⟨#[41]⟩ : ByteArray) then some ([], i + 1)
    else match exprE l f i 1 with
      | none => none
      | some (x, j) => match argTE l f j with
        | none => none
        | some (r, k) => match mustE l [⟨#[41]⟩] k with
          | none => none
          | some n => some (x :: r, n)
def argTE (l : List Tk) : Nat → Nat → Option (List Ex × Nat)
  | 0, _ => none
  | f + 1, j =>
    if peekE l j = (⟨#[44]⟩ : ByteArray) then (match exprE l f (j + 1) 1 with
      | none => none
      | some (x, k) => match argTE l f k with
        | none => none
        | some (r, n) => some (x :: r, n))
    else some ([], j)
end
theorem must_far {l : List Tk} : ∀ {ts : List ByteArray} {i j : Nat}, mustE l ts i = some j → (∀ s ∈ ts, s.size ≠ 0) → i ≤ l.length → j = i + ts.length ∧ j ≤ l.length
  | [], i, j, h, _, hi => by
    cases h
    exact ⟨rfl, hi⟩
  | s :: ts, i, j, h, hs, hi => by
    rw [mustE] at h
    split at h
    · rename_i hp
      have := peek_lt hp (hs s (by simp))
      obtain ⟨h1, h2⟩ := must_far h (fun t ht => hs t (by simp [ht])) (by omega)
      exact ⟨by simp only [List.length_cons]; omega, h2⟩
    · cases h
theorem sign_in {l : List Tk} {j : Nat} (h : ¬ (signE (peekE l j)).2.2 < 1) : j < l.length := by
  rcases Nat.lt_or_ge j l.length with hlt | hge
  · exact hlt
  · exfalso
    rw [peek_out (by omega)] at h
    exact h (by decide)
theorem sign_hi (s : ByteArray) : 0 ≤ (signE s).2.2 ∧ (signE s).2.2 ≤ 9 := by
  have aux : ∀ (c : Prop) [Decidable c] (a b : Int × Int × Int), (0 ≤ a.2.2 ∧ a.2.2 ≤ 9) → (0 ≤ b.2.2 ∧ b.2.2 ≤ 9) → 0 ≤ (if c then a else b).2.2 ∧ (if c then a else b).2.2 ≤ 9 := fun c _ a b ha hb => by
    by_cases h : c
    · rw [if_pos h]; exact ha
    · rw [if_neg h]; exact hb
  unfold signE
  repeat (refine aux _ _ _ ⟨by decide, by decide⟩ ?_)
  exact ⟨by decide, by decide⟩
/-- How far it is read. -/
structure Far (l : List Tk) (f : Nat) : Prop where
  e : ∀ i least x j, 1 ≤ least → i ≤ l.length → exprE l f i least = some (x, j) → i < j ∧ j ≤ l.length
  lo : ∀ x i least y j, 1 ≤ least → i ≤ l.length → loopE l f x i least = some (y, j) → i ≤ j ∧ j ≤ l.length
  a : ∀ i x j, i ≤ l.length → atomE l f i = some (x, j) → i < j ∧ j ≤ l.length
  g : ∀ i x j, i ≤ l.length → argsE l f i = some (x, j) → i < j ∧ j ≤ l.length
  t : ∀ i x j, i ≤ l.length → argTE l f i = some (x, j) → i ≤ j ∧ j ≤ l.length
theorem far (l : List Tk) : ∀ f, Far l f
  | 0 => ⟨fun _ _ _ _ _ _ h => by simp [exprE] at h, fun _ _ _ _ _ _ _ h => by simp [loopE] at h, fun _ _ _ _ h => by simp [atomE] at h, fun _ _ _ _ h => by simp [argsE] at h, fun _ _ _ _ h => by simp [argTE] at h⟩
  | f + 1 => by
    have ih := far l f
    refine ⟨fun i least x j hl hi h => ?_, fun x i least y j hl hi h => ?_, fun i x j hi h => ?_, fun i x j hi h => ?_, fun i x j hi h => ?_⟩
    · rw [exprE] at h
      cases ha : atomE l f i with
      | none => rw [ha] at h; cases h
      | some xj =>
        obtain ⟨y, k⟩ := xj
        rw [ha] at h
        have h1 := ih.a i y k hi ha
        have h2 := ih.lo y k least x j hl h1.2 h
        omega
    · rw [loopE] at h
      split at h
      · cases h; exact ⟨Nat.le_refl _, hi⟩
      · rename_i hs
        have hj : i < l.length := sign_in (l := l) (by omega)
        have hh := sign_hi (peekE l i)
        cases hx : exprE l f (i + 1) ((signE (peekE l i)).2.2 + 1) with
        | none => rw [hx] at h; cases h
        | some xj =>
          obtain ⟨z, k⟩ := xj
          rw [hx] at h
          have h1 := ih.e (i + 1) _ z k (by omega) (by omega) hx
          have h2 := ih.lo _ k least y j hl h1.2 h
          omega
    · rw [atomE] at h
      split at h
      · cases ht : takeE l i 2 with
        | none => rw [ht] at h; cases h
        | some tj =>
          obtain ⟨t, k⟩ := tj
          rw [ht] at h
          obtain ⟨h1, rfl, -, -⟩ := take_some ht
          cases h
          omega
      · split at h
        · rename_i hp
          have h0 := peek_lt hp (by decide)
          cases hm : mustE l [⟨#[40]⟩, ⟨#[41]⟩] (i + 1) with
          | none => rw [hm] at h; cases h
          | some k =>
            rw [hm] at h
            cases h
            have := must_far hm (by simp; decide) (by omega)
            omega
        · split at h
          · rename_i hp
            have h0 := peek_lt hp (by decide)
            cases hx : exprE l f (i + 1) 1 with
            | none => rw [hx] at h; cases h
            | some xj =>
              obtain ⟨z, k⟩ := xj
              rw [hx] at h
              simp only at h
              have h1 := ih.e (i + 1) 1 z k (by omega) (by omega) hx
              cases hm : mustE l [⟨#[41]⟩] k with
              | none => rw [hm] at h; cases h
              | some n =>
                rw [hm] at h
                cases h
                have := must_far hm (by simp; decide) h1.2
                omega
          · split at h
            · rename_i hp
              have h0 := peek_lt hp (by decide)
              cases hx : atomE l f (i + 1) with
              | none => rw [hx] at h; cases h
              | some xj =>
                obtain ⟨z, k⟩ := xj
                rw [hx] at h
                cases h
                have h1 := ih.a (i + 1) z _ (by omega) hx
                omega
            · cases ht : takeE l i 1 with
              | none => rw [ht] at h; cases h
              | some tj =>
                obtain ⟨t, k⟩ := tj
                rw [ht] at h
                obtain ⟨h0, rfl, -, -⟩ := take_some ht
                simp only at h
                split at h
                · rename_i hp
                  have h0 := peek_lt hp (by decide)
                  cases hx : exprE l f (i + 1 + 1) 1 with
                  | none => rw [hx] at h; cases h
                  | some xj =>
                    obtain ⟨z, k⟩ := xj
                    rw [hx] at h
                    simp only at h
                    have h1 := ih.e (i + 1 + 1) 1 z k (by omega) (by omega) hx
                    cases hm : mustE l [⟨#[93]⟩] k with
                    | none => rw [hm] at h; cases h
                    | some n =>
                      rw [hm] at h
                      cases h
                      have := must_far hm (by simp; decide) h1.2
                      omega
                · split at h
                  · rename_i hp
                    have h0 := peek_lt hp (by decide)
                    cases hx : argsE l f (i + 1 + 1) with
                    | none => rw [hx] at h; cases h
                    | some xj =>
                      obtain ⟨z, k⟩ := xj
                      rw [hx] at h
                      cases h
                      have h1 := ih.g (i + 1 + 1) z _ (by omega) hx
                      omega
                  · cases h
                    omega
    · rw [argsE] at h
      split at h
      · rename_i hp
        have h0 := peek_lt hp (by decide)
        cases h
        omega
      · cases hx : exprE l f i 1 with
        | none => rw [hx] at h; cases h
        | some xj =>
          obtain ⟨z, k⟩ := xj
          rw [hx] at h
          simp only at h
          have h1 := ih.e i 1 z k (by omega) hi hx
          cases ht : argTE l f k with
          | none => rw [ht] at h; cases h
          | some rk =>
            obtain ⟨r, n⟩ := rk
            rw [ht] at h
            simp only at h
            have h2 := ih.t k r n h1.2 ht
            cases hm : mustE l [⟨#[41]⟩] n with
            | none => rw [hm] at h; cases h
            | some q =>
              rw [hm] at h
              cases h
              have := must_far hm (by simp; decide) h2.2
              omega
    · rw [argTE] at h
      split at h
      · rename_i hp
        have h0 := peek_lt hp (by decide)
        cases hx : exprE l f (i + 1) 1 with
        | none => rw [hx] at h; cases h
        | some xj =>
          obtain ⟨z, k⟩ := xj
          rw [hx] at h
          simp only at h
          have h1 := ih.e (i + 1) 1 z k (by omega) (by omega) hx
          cases ht : argTE l f k with
          | none => rw [ht] at h; cases h
          | some rk =>
            obtain ⟨r, n⟩ := rk
            rw [ht] at h
            cases h
            have h2 := ih.t k r _ h1.2 ht
            omega
      · cases h; exact ⟨Nat.le_refl _, hi⟩
end Go.Proofs.YtddggjmfplohkaaDoor
