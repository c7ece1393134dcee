import Derived.Test.YtddggjmfplohkaaDoorPg
/- The reader: statements, in plain Lean; conditions, and statements that begin with a name, walked. -/
namespace Go.Proofs.YtddggjmfplohkaaDoor
open Go Go.RowKit
/-- Enough for any expression. -/
def fuE (l : List Tk) : Nat := 4 * l.length + 10
def roundE (l : List Tk) (i : Nat) : Option (Ex × Nat) :=
  match mustE l [⟨#[40]⟩] i with
  | none => none
  | some j => match exprE l (fuE l) j 1 with
    | none => none
    | some (x, k) => match mustE l [⟨#[41]⟩] k with
      | none => none
      | some n => some (x, n)
/-- What comes behind a name: a kind, expressions. -/
def namE (l : List Tk) (j : Nat) : Option ((Int × List Ex) × Nat) :=
  if peekE l j = (⟨#[61]⟩ : ByteArray) then (match exprE l (fuE l) (j + 1) 1 with
    | none => none
    | some (x, k) => some ((1, [x]), k))
  else if peekE l j = (⟨#[91]⟩ : ByteArray) then (match exprE l (fuE l) (j + 1) 1 with
    | none => none
    | some (x, k) => match mustE l [⟨#[93]⟩, ⟨#[61]⟩] k with
      | none => none
      | some n => match exprE l (fuE l) n 1 with
        | none => none
        | some (y, q) => some ((2, [x, y]), q))
  else if peekE l j = (⟨#[40]⟩ : ByteArray) then (match argsE l (fuE l) (j + 1) with
    | none => none
    | some (xs, k) => some ((6, xs), k))
  else none
def namedE (l : List Tk) (i : Nat) : Option (Sm × Nat) :=
  match takeE l i 1 with
  | none => none
  | some (t, j) => match namE l j with
    | none => none
    | some ((k, es), n) => match mustE l [⟨#[59]⟩] n with
      | none => none
      | some q => some (.mk k t.text es [] [], q)
def smO : Option (Sm × Nat) → Option (PV × Nat)
  | some (x, j) => some (.agg (smC x), j)
  | none => none
def smsO (acc : List Sm) : Option (List Sm × Nat) → Option (PV × Nat)
  | some (x, j) => some (.sl .any (smsC (acc ++ x)), j)
  | none => none
def rouO : Option (Ex × Nat) → Option (PV × Nat)
  | some (x, j) => some (.sl .any (exsC [x]), j)
  | none => none
theorem te1 (l : List Tk) (e : Int) (hl : l.length ≤ 100000) (i : Nat) (hi : i ≤ l.length) : SpecRd 94 [.v (.int .i64 1)] l i e (exO (exprE l (fuE l) i 1)) := te_ok l e hl (fuE l) i 1 (by omega) (by omega) hi (by unfold fuE; omega)
theorem tg1 (l : List Tk) (e : Int) (hl : l.length ≤ 100000) (i : Nat) (hi : i ≤ l.length) : SpecRd 101 [] l i e (exsO (argsE l (fuE l) i)) := tg_ok l e hl (fuE l) i hi (by unfold fuE; omega)
theorem round_far {l : List Tk} {i j : Nat} {x : Ex} (hi : i ≤ l.length) (h : roundE l i = some (x, j)) : i < j ∧ j ≤ l.length := by
  unfold roundE at h
  cases h1 : mustE l [⟨#[40]⟩] i with
  | none => rw [h1] at h; cases h
  | some j1 =>
    rw [h1] at h
    simp only at h
    have q1 := must_far h1 (by simp; decide) hi
    cases h2 : exprE l (fuE l) j1 1 with
    | none => rw [h2] at h; cases h
    | some xk =>
      obtain ⟨y, k⟩ := xk
      rw [h2] at h
      simp only at h
      have q2 := (far l (fuE l)).e j1 1 y k (by omega) q1.2 h2
      cases h3 : mustE l [⟨#[41]⟩] k with
      | none => rw [h3] at h; cases h
      | some n =>
        rw [h3] at h
        cases h
        have q3 := must_far h3 (by simp; decide) q2.2
        omega
theorem nam_far {l : List Tk} {j n : Nat} {z : Int × List Ex} (_hi : j ≤ l.length) (h : namE l j = some (z, n)) : j < n ∧ n ≤ l.length := by
  unfold namE at h
  split at h
  · rename_i hp
    have h0 := peek_lt hp (by decide)
    cases h2 : exprE l (fuE l) (j + 1) 1 with
    | none => rw [h2] at h; cases h
    | some xk =>
      obtain ⟨y, k⟩ := xk
      rw [h2] at h
      cases h
      have q2 := (far l (fuE l)).e (j + 1) 1 y n (by omega) (by omega) h2
      omega
  · split at h
    · rename_i hp
      have h0 := peek_lt hp (by decide)
      cases h2 : exprE l (fuE l) (j + 1) 1 with
      | none => rw [h2] at h; cases h
      | some xk =>
        obtain ⟨y, k⟩ := xk
        rw [h2] at h
        simp only at h
        have q2 := (far l (fuE l)).e (j + 1) 1 y k (by omega) (by omega) h2
        cases h3 : mustE l [⟨#[93]⟩, ⟨#[61]⟩] k with
        | none => rw [h3] at h; cases h
        | some m =>
          rw [h3] at h
          simp only at h
          have q3 := must_far h3 (by simp; decide) q2.2
          cases h4 : exprE l (fuE l) m 1 with
          | none => rw [h4] at h; cases h
          | some yq =>
            obtain ⟨y2, q⟩ := yq
            rw [h4] at h
            cases h
            have q4 := (far l (fuE l)).e m 1 y2 n (by omega) q3.2 h4
            omega
    · split at h
      · rename_i hp
        have h0 := peek_lt hp (by decide)
        cases h2 : argsE l (fuE l) (j + 1) with
        | none => rw [h2] at h; cases h
        | some xk =>
          obtain ⟨y, k⟩ := xk
          rw [h2] at h
          cases h
          have q2 := (far l (fuE l)).g (j + 1) y n (by omega) h2
          omega
      · cases h
set_option maxHeartbeats 8000000 in
set_option maxRecDepth 100000 in
theorem s_round (l : List Tk) (e : Int) (hl : l.length ≤ 100000) (i : Nat) (hi : i ≤ l.length) : SpecRd 93 [] l i e (rouO (roundE l i)) := by
  unfold SpecRd
  have hs := s_must l i e [⟨#[40]⟩] (by omega) (by simp)
  cases h1 : mustE l [⟨#[40]⟩] i with
  | none =>
    have ho : rouO (roundE l i) = none := by unfold roundE; rw [h1]; rfl
    rw [h1] at hs
    refine spec_of_bodyR CX_mixed CU_gpk Tryd.func93 rfl 14 1 (fun c hc => by rw [List.mem_singleton.1 hc]; rfl) rfl rfl ?_
    refine goto_ 1 ?_
    try with_reducible apply c_seq
    refine c_die 2 rfl rfl (fun h => by cases h) ?_
    simp only [List.take_succ_cons, List.take_zero]
    refine go_ ?_
    refine run_end ⟨fun h => (by cases h), ?_⟩
    conv => whnf
    refine And.intro (by kernel_rfl) (vcDie_rd (hs) (by kernel_rfl) (by decide) rfl fun a_ j_ ha_ => ?_)
    conv => whnf
    intro σ_ hσ_
    refine go_ ?_
    conv => whnf
    exact ⟨_, [.cells (rdC l j_ e)], rfl, And.intro (And.intro rfl rfl) trivial, (by rw [ho]; exact ⟨rfl, a_, j_, ha_, rfl, rfl⟩), rfl⟩
  | some j =>
    rw [h1] at hs
    have q1 := must_far h1 (by simp; decide) hi
    have hs2 := te1 l e hl j q1.2
    cases h2 : exprE l (fuE l) j 1 with
    | none =>
      have ho : rouO (roundE l i) = none := by unfold roundE; rw [h1]; simp only; rw [h2]; rfl
      rw [h2] at hs2
      refine spec_of_bodyR CX_mixed CU_gpk Tryd.func93 rfl 14 1 (fun c hc => by rw [List.mem_singleton.1 hc]; rfl) rfl rfl ?_
      refine go_ ?_
      with_reducible apply run_y
      exact want_
      · intro K hK
        refine ev_ ?_
        refine vcCall_rd (hs.got rfl) (by kernel_rfl) (by decide) rfl ?_
        refine ev_ ?_
        exact hK
      refine goto_ 2 ?_
      try with_reducible apply c_seq
      refine c_die 1 rfl rfl (fun h => by cases h) ?_
      simp only [List.take_succ_cons, List.take_zero]
      refine go_ ?_
      refine run_end ⟨fun h => (by cases h), ?_⟩
      conv => whnf
      refine And.intro (by kernel_rfl) (vcDie_rd (hs2) (by kernel_rfl) (by decide) rfl fun a_ j_ ha_ => ?_)
      conv => whnf
      intro σ_ hσ_
      refine go_ ?_
      conv => whnf
      exact ⟨_, [.cells (rdC l j_ e)], rfl, And.intro (And.intro rfl rfl) trivial, (by rw [ho]; exact ⟨rfl, a_, j_, ha_, rfl, rfl⟩), rfl⟩
    | some xk =>
      obtain ⟨x, k⟩ := xk
      rw [h2] at hs2
      have q2 := (far l (fuE l)).e j 1 x k (by omega) q1.2 h2
      have hs3 := s_must l k e [⟨#[41]⟩] (by omega) (by simp)
      obtain ⟨xk, xo, xn, xs, xks⟩ := x
      refine spec_of_bodyR CX_mixed CU_gpk Tryd.func93 rfl 14 1 (fun c hc => by rw [List.mem_singleton.1 hc]; rfl) rfl rfl ?_
      refine go_ ?_
      with_reducible apply run_y
      exact want_
      · intro K hK
        refine ev_ ?_
        refine vcCall_rd (hs.got rfl) (by kernel_rfl) (by decide) rfl ?_
        refine ev_ ?_
        exact hK
      refine go_ ?_
      with_reducible apply run_y
      exact want_
      · intro K hK
        refine ev_ ?_
        refine vcCall_rd (hs2.got rfl) (by kernel_rfl) (by decide) rfl ?_
        refine ev_ ?_
        exact hK
      refine goto_ 3 ?_
      cases h3 : mustE l [⟨#[41]⟩] k with
      | none =>
        have ho : rouO (roundE l i) = none := by unfold roundE; rw [h1]; simp only; rw [h2]; simp only; rw [h3]; rfl
        rw [h3] at hs3
        try with_reducible apply c_seq
        refine c_die 2 rfl rfl (fun h => by cases h) ?_
        simp only [List.take_succ_cons, List.take_zero]
        refine go_ ?_
        refine run_end ⟨fun h => (by cases h), ?_⟩
        conv => whnf
        refine And.intro (by kernel_rfl) (vcDie_rd (hs3) (by kernel_rfl) (by decide) rfl fun a_ j_ ha_ => ?_)
        conv => whnf
        intro σ_ hσ_
        refine go_ ?_
        conv => whnf
        exact ⟨_, [.cells (rdC l j_ e)], rfl, And.intro (And.intro rfl rfl) trivial, (by rw [ho]; exact ⟨rfl, a_, j_, ha_, rfl, rfl⟩), rfl⟩
      | some n =>
        have ho : rouO (roundE l i) = some (.sl .any (exsC [.mk xk xo xn xs xks]), n) := by unfold roundE; rw [h1]; simp only; rw [h2]; simp only; rw [h3]; rfl
        rw [h3] at hs3
        refine go_ ?_
        with_reducible apply run_y
        exact want_
        · intro K hK
          refine ev_ ?_
          refine vcCall_rd (hs3.got rfl) (by kernel_rfl) (by decide) rfl ?_
          refine ev_ ?_
          exact hK
        refine go_ ?_
        refine ev_ ?_
        exact ⟨_, [.cells (rdC l (n) e)], .mk rfl (And.intro (And.intro rfl rfl) trivial), (by rw [ho]; exact ⟨rfl, rfl, rfl⟩), rfl, rfl⟩
set_option maxHeartbeats 8000000 in
set_option maxRecDepth 100000 in
theorem s_named (l : List Tk) (e : Int) (hl : l.length ≤ 100000) (i : Nat) (_hi : i ≤ l.length) : SpecRd 96 [] l i e (smO (namedE l i)) := by
  unfold SpecRd
  have hs := s_take l i e 1 (by decide) (by omega)
  cases ht : takeE l i 1 with
  | none =>
    have ho : smO (namedE l i) = none := by unfold namedE; rw [ht]; rfl
    rw [ht] at hs
    refine spec_of_bodyR CX_mixed CU_gpk Tryd.func96 rfl 44 1 (fun c hc => by rw [List.mem_singleton.1 hc]; rfl) rfl rfl ?_
    refine goto_ 1 ?_
    try with_reducible apply c_seq
    refine c_die 1 rfl rfl (fun h => by cases h) ?_
    simp only [List.take_succ_cons, List.take_zero]
    refine go_ ?_
    refine run_end ⟨fun h => (by cases h), ?_⟩
    conv => whnf
    refine And.intro (by kernel_rfl) (vcDie_rd (hs) (by kernel_rfl) (by decide) rfl fun a_ j_ ha_ => ?_)
    conv => whnf
    intro σ_ hσ_
    refine go_ ?_
    conv => whnf
    exact ⟨_, [.cells (rdC l j_ e)], rfl, And.intro (And.intro rfl rfl) trivial, (by rw [ho]; exact ⟨rfl, a_, j_, ha_, rfl, rfl⟩), rfl⟩
  | some tj =>
    obtain ⟨t, j⟩ := tj
    obtain ⟨hil, rfl, -, -⟩ := take_some ht
    rw [ht] at hs
    obtain ⟨tk, tt, tn, ta⟩ := t
    have hno : namE l (i + 1) = none → smO (namedE l i) = none := fun h => by unfold namedE; rw [ht]; simp only; rw [h]; rfl
    have hyes : ∀ k es n, namE l (i + 1) = some ((k, es), n) → smO (namedE l i) = smO (match mustE l [⟨#[59]⟩] n with
      | none => none
      | some q => some (.mk k tt es [] [], q)) := fun k es n h => by unfold namedE; rw [ht]; simp only; rw [h]
    clear ht
    refine spec_of_bodyR CX_mixed CU_gpk Tryd.func96 rfl 44 1 (fun c hc => by rw [List.mem_singleton.1 hc]; rfl) rfl rfl ?_
    refine go_ ?_
    with_reducible apply run_y
    exact want_
    · intro K hK
      refine ev_ ?_
      refine vcCall_rd (hs.got rfl) (by kernel_rfl) (by decide) rfl ?_
      refine ev_ ?_
      exact hK
    refine go_ ?_
    clear hs
    by_cases ha : peekE l (i + 1) = (⟨#[61]⟩ : ByteArray)
    · have h0 := peek_lt ha (by decide)
      with_reducible apply run_y
      exact want_
      · intro K hK
        refine ev_ ?_
        refine vcCall_rd ((s_may_t l (i + 1) e _ (by omega) ha).got rfl) (by kernel_rfl) (by decide) rfl ?_
        refine ev_ ?_
        exact hK
      refine goto_ 5 ?_
      have hs := te1 l e hl (i + 1 + 1) (by omega)
      cases h2 : exprE l (fuE l) (i + 1 + 1) 1 with
      | none =>
        have ho := hno (by unfold namE; rw [if_pos ha, h2])
        rw [h2] at hs
        try with_reducible apply c_seq
        refine c_die 1 rfl rfl (fun h => by cases h) ?_
        simp only [List.take_succ_cons, List.take_zero]
        refine go_ ?_
        refine run_end ⟨fun h => (by cases h), ?_⟩
        conv => whnf
        refine And.intro (by kernel_rfl) (vcDie_rd (hs) (by kernel_rfl) (by decide) rfl fun a_ j_ ha_ => ?_)
        conv => whnf
        intro σ_ hσ_
        refine go_ ?_
        conv => whnf
        exact ⟨_, [.cells (rdC l j_ e)], rfl, And.intro (And.intro rfl rfl) trivial, (by rw [ho]; exact ⟨rfl, a_, j_, ha_, rfl, rfl⟩), rfl⟩
      | some xk =>
        obtain ⟨x, k⟩ := xk
        have ho := hyes 1 [x] k (by unfold namE; rw [if_pos ha, h2])
        rw [h2] at hs
        have q2 := (far l (fuE l)).e (i + 1 + 1) 1 x k (by omega) (by omega) h2
        have hs3 := s_must l k e [⟨#[59]⟩] (by omega) (by simp)
        obtain ⟨xk, xo, xn, xs, xks⟩ := x
        refine go_ ?_
        with_reducible apply run_y
        exact want_
        · intro K hK
          refine ev_ ?_
          refine vcCall_rd (hs.got rfl) (by kernel_rfl) (by decide) rfl ?_
          refine ev_ ?_
          exact hK
        refine goto_ 14 ?_
        cases h3 : mustE l [⟨#[59]⟩] k with
        | none =>
          rw [h3] at ho hs3
          try with_reducible apply c_seq
          refine c_die 2 rfl rfl (fun h => by cases h) ?_
          simp only [List.take_succ_cons, List.take_zero]
          refine go_ ?_
          refine run_end ⟨fun h => (by cases h), ?_⟩
          conv => whnf
          refine And.intro (by kernel_rfl) (vcDie_rd (hs3) (by kernel_rfl) (by decide) rfl fun a_ j_ ha_ => ?_)
          conv => whnf
          intro σ_ hσ_
          refine go_ ?_
          conv => whnf
          exact ⟨_, [.cells (rdC l j_ e)], rfl, And.intro (And.intro rfl rfl) trivial, (by rw [ho]; exact ⟨rfl, a_, j_, ha_, rfl, rfl⟩), rfl⟩
        | some n =>
          rw [h3] at ho hs3
          have ho : smO (namedE l i) = some (.agg (smC (.mk 1 tt [.mk xk xo xn xs xks] [] [])), n) := ho
          refine go_ ?_
          with_reducible apply run_y
          exact want_
          · intro K hK
            refine ev_ ?_
            refine vcCall_rd (hs3.got rfl) (by kernel_rfl) (by decide) rfl ?_
            refine ev_ ?_
            exact hK
          refine go_ ?_
          refine ev_ ?_
          exact ⟨_, [.cells (rdC l (n) e)], .mk rfl (And.intro (And.intro rfl rfl) trivial), (by rw [ho]; exact ⟨rfl, rfl, rfl⟩), rfl, rfl⟩
    with_reducible apply run_y
    exact want_
    · intro K hK
      refine ev_ ?_
      refine vcCall_rd ((s_may_f l (i + 1) e _ (by omega) ha).got rfl) (by kernel_rfl) (by decide) rfl ?_
      refine ev_ ?_
      exact hK
    refine go_ ?_
    by_cases hb : peekE l (i + 1) = (⟨#[91]⟩ : ByteArray)
    · have h0 := peek_lt hb (by decide)
      with_reducible apply run_y
      exact want_
      · intro K hK
        refine ev_ ?_
        refine vcCall_rd ((s_may_t l (i + 1) e _ (by omega) hb).got rfl) (by kernel_rfl) (by decide) rfl ?_
        refine ev_ ?_
        exact hK
      refine goto_ 7 ?_
      have hs := te1 l e hl (i + 1 + 1) (by omega)
      cases h2 : exprE l (fuE l) (i + 1 + 1) 1 with
      | none =>
        have ho := hno (by unfold namE; rw [if_neg ha, if_pos hb, h2])
        rw [h2] at hs
        try with_reducible apply c_seq
        refine c_die 1 rfl rfl (fun h => by cases h) ?_
        simp only [List.take_succ_cons, List.take_zero]
        refine go_ ?_
        refine run_end ⟨fun h => (by cases h), ?_⟩
        conv => whnf
        refine And.intro (by kernel_rfl) (vcDie_rd (hs) (by kernel_rfl) (by decide) rfl fun a_ j_ ha_ => ?_)
        conv => whnf
        intro σ_ hσ_
        refine go_ ?_
        conv => whnf
        exact ⟨_, [.cells (rdC l j_ e)], rfl, And.intro (And.intro rfl rfl) trivial, (by rw [ho]; exact ⟨rfl, a_, j_, ha_, rfl, rfl⟩), rfl⟩
      | some xk =>
        obtain ⟨x, k⟩ := xk
        rw [h2] at hs
        have q2 := (far l (fuE l)).e (i + 1 + 1) 1 x k (by omega) (by omega) h2
        have hs3 := s_must l k e [⟨#[93]⟩, ⟨#[61]⟩] (by omega) (by simp)
        obtain ⟨xk, xo, xn, xs, xks⟩ := x
        refine go_ ?_
        with_reducible apply run_y
        exact want_
        · intro K hK
          refine ev_ ?_
          refine vcCall_rd (hs.got rfl) (by kernel_rfl) (by decide) rfl ?_
          refine ev_ ?_
          exact hK
        refine goto_ 8 ?_
        cases h3 : mustE l [⟨#[93]⟩, ⟨#[61]⟩] k with
        | none =>
          have ho := hno (by unfold namE; rw [if_neg ha, if_pos hb, h2]; simp only; rw [h3])
          rw [h3] at hs3
          try with_reducible apply c_seq
          refine c_die 2 rfl rfl (fun h => by cases h) ?_
          simp only [List.take_succ_cons, List.take_zero]
          refine go_ ?_
          refine run_end ⟨fun h => (by cases h), ?_⟩
          conv => whnf
          refine And.intro (by kernel_rfl) (vcDie_rd (hs3) (by kernel_rfl) (by decide) rfl fun a_ j_ ha_ => ?_)
          conv => whnf
          intro σ_ hσ_
          refine go_ ?_
          conv => whnf
          exact ⟨_, [.cells (rdC l j_ e)], rfl, And.intro (And.intro rfl rfl) trivial, (by rw [ho]; exact ⟨rfl, a_, j_, ha_, rfl, rfl⟩), rfl⟩
        | some n =>
          rw [h3] at hs3
          have q3 := must_far h3 (by simp; decide) q2.2
          have hs4 := te1 l e hl n q3.2
          refine go_ ?_
          with_reducible apply run_y
          exact want_
          · intro K hK
            refine ev_ ?_
            refine vcCall_rd (hs3.got rfl) (by kernel_rfl) (by decide) rfl ?_
            refine ev_ ?_
            exact hK
          refine goto_ 10 ?_
          cases h4 : exprE l (fuE l) n 1 with
          | none =>
            have ho := hno (by unfold namE; rw [if_neg ha, if_pos hb, h2]; simp only; rw [h3]; simp only; rw [h4])
            rw [h4] at hs4
            try with_reducible apply c_seq
            refine c_die 2 rfl rfl (fun h => ⟨by kernel_rfl, by kernel_rfl⟩) ?_
            simp only [List.take_succ_cons, List.take_zero]
            refine go_ ?_
            refine run_end ⟨fun h => (by kernel_rfl), ?_⟩
            conv => whnf
            refine And.intro (by kernel_rfl) (vcDie_rd (hs4) (by kernel_rfl) (by decide) rfl fun a_ j_ ha_ => ?_)
            conv => whnf
            intro σ_ hσ_
            refine go_ ?_
            conv => whnf
            exact ⟨_, [.cells (rdC l j_ e)], rfl, And.intro (And.intro rfl rfl) trivial, (by rw [ho]; exact ⟨rfl, a_, j_, ha_, rfl, rfl⟩), rfl⟩
          | some yq =>
            obtain ⟨y, q⟩ := yq
            have ho := hyes 2 [.mk xk xo xn xs xks, y] q (by unfold namE; rw [if_neg ha, if_pos hb, h2]; simp only; rw [h3]; simp only; rw [h4])
            rw [h4] at hs4
            have q4 := (far l (fuE l)).e n 1 y q (by omega) q3.2 h4
            have hs5 := s_must l q e [⟨#[59]⟩] (by omega) (by simp)
            obtain ⟨yk, yo, yn, ys, yks⟩ := y
            refine go_ ?_
            with_reducible apply run_y
            exact want_
            · intro K hK
              refine ev_ ?_
              refine vcCall_rd (hs4.got rfl) (by kernel_rfl) (by decide) rfl ?_
              refine ev_ ?_
              exact hK
            refine goto_ 14 ?_
            cases h5 : mustE l [⟨#[59]⟩] q with
            | none =>
              rw [h5] at ho hs5
              try with_reducible apply c_seq
              refine c_die 2 rfl rfl (fun h => by cases h) ?_
              simp only [List.take_succ_cons, List.take_zero]
              refine go_ ?_
              refine run_end ⟨fun h => (by cases h), ?_⟩
              conv => whnf
              refine And.intro (by kernel_rfl) (vcDie_rd (hs5) (by kernel_rfl) (by decide) rfl fun a_ j_ ha_ => ?_)
              conv => whnf
              intro σ_ hσ_
              refine go_ ?_
              conv => whnf
              exact ⟨_, [.cells (rdC l j_ e)], rfl, And.intro (And.intro rfl rfl) trivial, (by rw [ho]; exact ⟨rfl, a_, j_, ha_, rfl, rfl⟩), rfl⟩
            | some z =>
              rw [h5] at ho hs5
              have ho : smO (namedE l i) = some (.agg (smC (.mk 2 tt [.mk xk xo xn xs xks, .mk yk yo yn ys yks] [] [])), z) := ho
              refine go_ ?_
              with_reducible apply run_y
              exact want_
              · intro K hK
                refine ev_ ?_
                refine vcCall_rd (hs5.got rfl) (by kernel_rfl) (by decide) rfl ?_
                refine ev_ ?_
                exact hK
              refine go_ ?_
              refine ev_ ?_
              exact ⟨_, [.cells (rdC l (z) e)], .mk rfl (And.intro (And.intro rfl rfl) trivial), (by rw [ho]; exact ⟨rfl, rfl, rfl⟩), rfl, rfl⟩
    with_reducible apply run_y
    exact want_
    · intro K hK
      refine ev_ ?_
      refine vcCall_rd ((s_may_f l (i + 1) e _ (by omega) hb).got rfl) (by kernel_rfl) (by decide) rfl ?_
      refine ev_ ?_
      exact hK
    refine go_ ?_
    by_cases hc : peekE l (i + 1) = (⟨#[40]⟩ : ByteArray)
    · have h0 := peek_lt hc (by decide)
      with_reducible apply run_y
      exact want_
      · intro K hK
        refine ev_ ?_
        refine vcCall_rd ((s_may_t l (i + 1) e _ (by omega) hc).got rfl) (by kernel_rfl) (by decide) rfl ?_
        refine ev_ ?_
        exact hK
      refine goto_ 13 ?_
      have hs := tg1 l e hl (i + 1 + 1) (by omega)
      cases h2 : argsE l (fuE l) (i + 1 + 1) with
      | none =>
        have ho := hno (by unfold namE; rw [if_neg ha, if_neg hb, if_pos hc, h2])
        rw [h2] at hs
        try with_reducible apply c_seq
        refine c_die 1 rfl rfl (fun h => by cases h) ?_
        simp only [List.take_succ_cons, List.take_zero]
        refine go_ ?_
        refine run_end ⟨fun h => (by cases h), ?_⟩
        conv => whnf
        refine And.intro (by kernel_rfl) (vcDie_rd (hs) (by kernel_rfl) (by decide) rfl fun a_ j_ ha_ => ?_)
        conv => whnf
        intro σ_ hσ_
        refine go_ ?_
        conv => whnf
        exact ⟨_, [.cells (rdC l j_ e)], rfl, And.intro (And.intro rfl rfl) trivial, (by rw [ho]; exact ⟨rfl, a_, j_, ha_, rfl, rfl⟩), rfl⟩
      | some xk =>
        obtain ⟨xs, k⟩ := xk
        have ho := hyes 6 xs k (by unfold namE; rw [if_neg ha, if_neg hb, if_pos hc, h2])
        rw [h2] at hs
        have q2 := (far l (fuE l)).g (i + 1 + 1) xs k (by omega) h2
        have hs3 := s_must l k e [⟨#[59]⟩] (by omega) (by simp)
        refine go_ ?_
        with_reducible apply run_y
        exact want_
        · intro K hK
          refine ev_ ?_
          refine vcCall_rd (hs.got rfl) (by kernel_rfl) (by decide) rfl ?_
          refine ev_ ?_
          exact hK
        refine goto_ 14 ?_
        cases h3 : mustE l [⟨#[59]⟩] k with
        | none =>
          rw [h3] at ho hs3
          try with_reducible apply c_seq
          refine c_die 2 rfl rfl (fun h => by cases h) ?_
          simp only [List.take_succ_cons, List.take_zero]
          refine go_ ?_
          refine run_end ⟨fun h => (by cases h), ?_⟩
          conv => whnf
          refine And.intro (by kernel_rfl) (vcDie_rd (hs3) (by kernel_rfl) (by decide) rfl fun a_ j_ ha_ => ?_)
          conv => whnf
          intro σ_ hσ_
          refine go_ ?_
          conv => whnf
          exact ⟨_, [.cells (rdC l j_ e)], rfl, And.intro (And.intro rfl rfl) trivial, (by rw [ho]; exact ⟨rfl, a_, j_, ha_, rfl, rfl⟩), rfl⟩
        | some n =>
          rw [h3] at ho hs3
          have ho : smO (namedE l i) = some (.agg (smC (.mk 6 tt xs [] [])), n) := ho
          refine go_ ?_
          with_reducible apply run_y
          exact want_
          · intro K hK
            refine ev_ ?_
            refine vcCall_rd (hs3.got rfl) (by kernel_rfl) (by decide) rfl ?_
            refine ev_ ?_
            exact hK
          refine go_ ?_
          refine ev_ ?_
          exact ⟨_, [.cells (rdC l (n) e)], .mk rfl (And.intro (And.intro rfl rfl) trivial), (by rw [ho]; exact ⟨rfl, rfl, rfl⟩), rfl, rfl⟩
    have ho := hno (by unfold namE; rw [if_neg ha, if_neg hb, if_neg hc])
    with_reducible apply run_y
    exact want_
    · intro K hK
      refine ev_ ?_
      refine vcCall_rd ((s_may_f l (i + 1) e _ (by omega) hc).got rfl) (by kernel_rfl) (by decide) rfl ?_
      refine ev_ ?_
      exact hK
    refine goto_ 2 ?_
    try with_reducible apply c_seq
    refine c_die 1 rfl rfl (fun h => by cases h) ?_
    simp only [List.take_succ_cons, List.take_zero]
    refine go_ ?_
    refine run_end ⟨fun h => (by cases h), ?_⟩
    conv => whnf
    refine And.intro (by kernel_rfl) (vcDie_rd (s_fail l (i + 1) e) (by kernel_rfl) (by decide) rfl fun a_ j_ ha_ => ?_)
    conv => whnf
    intro σ_ hσ_
    refine go_ ?_
    conv => whnf
    exact ⟨_, [.cells (rdC l j_ e)], rfl, And.intro (And.intro rfl rfl) trivial, (by rw [ho]; exact ⟨rfl, a_, j_, ha_, rfl, rfl⟩), rfl⟩
end Go.Proofs.YtddggjmfplohkaaDoor
