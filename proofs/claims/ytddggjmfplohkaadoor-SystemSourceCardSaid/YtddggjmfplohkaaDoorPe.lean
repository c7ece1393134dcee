import Derived.Test.YtddggjmfplohkaaDoorPd
/- The reader: atoms, walked. -/
namespace Go.Proofs.YtddggjmfplohkaaDoor
open Go Go.RowKit
def exO : Option (Ex × Nat) → Option (PV × Nat)
  | some (x, j) => some (.agg (exC x), j)
  | none => none
def exsO : Option (List Ex × Nat) → Option (PV × Nat)
  | some (x, j) => some (.sl .any (exsC x), j)
  | none => none
theorem s_may_t (l : List Tk) (i : Nat) (e : Int) (s : ByteArray) (hi : i ≤ 1000000) (h : peekE l i = s) : SpecRd 42 [.v (.string s)] l i e (some (.v (.bool true), i + 1)) := by
  have := s_may l i e s hi
  rw [decide_eq_true h, show mayE l i s = i + 1 from if_pos h] at this
  exact this
theorem s_may_f (l : List Tk) (i : Nat) (e : Int) (s : ByteArray) (hi : i ≤ 1000000) (h : ¬ peekE l i = s) : SpecRd 42 [.v (.string s)] l i e (some (.v (.bool false), i)) := by
  have := s_may l i e s hi
  rw [decide_eq_false h, show mayE l i s = i from if_neg h] at this
  exact this
/-- What is said of expressions, of so much fuel. -/
def TE (l : List Tk) (e : Int) (f : Nat) : Prop := ∀ i least, 1 ≤ least → least ≤ 100 → i ≤ l.length → 4 * (l.length - i) + 4 ≤ f → SpecRd 94 [.v (.int .i64 least)] l i e (exO (exprE l f i least))
def TA (l : List Tk) (e : Int) (f : Nat) : Prop := ∀ i, i ≤ l.length → 4 * (l.length - i) + 3 ≤ f → SpecRd 99 [] l i e (exO (atomE l f i))
def TG (l : List Tk) (e : Int) (f : Nat) : Prop := ∀ i, i ≤ l.length → 4 * (l.length - i) + 5 ≤ f → SpecRd 101 [] l i e (exsO (argsE l f i))
set_option maxHeartbeats 8000000 in
set_option maxRecDepth 100000 in
theorem s_atom (l : List Tk) (e : Int) (hl : l.length ≤ 100000) (f : Nat) (hE : TE l e f) (hA : TA l e f) (hG : TG l e f) (i : Nat) (hi : i ≤ l.length) (hf : 4 * (l.length - i) + 3 ≤ f + 1) : SpecRd 99 [] l i e (exO (atomE l (f + 1) i)) := by
  unfold SpecRd
  refine spec_of_bodyR CX_mixed CU_gpk Tryd.func99 rfl 57 1 (fun c hc => by rw [List.mem_singleton.1 hc]; rfl) rfl rfl ?_
  refine go_ ?_
  with_reducible apply run_y
  exact want_
  · intro K hK
    refine ev_ ?_
    refine vcCall_rd ((s_kind l i e).got rfl) (by kernel_rfl) (by decide) rfl ?_
    refine ev_ ?_
    exact hK
  refine go_ ?_
  by_cases h2 : kindE l i = 2
  · have g2 : (kindE l i == 2) = true := by simpa using h2
    have hs := s_take l i e 2 (by decide) (by omega)
    cases ht : takeE l i 2 with
    | none =>
      have ho : exO (atomE l (f + 1) i) = none := by rw [atomE, if_pos h2, ht]; rfl
      rw [ht] at hs
      refine goto_ 2 ?_
      try with_reducible apply c_seq
      refine c_die 1 rfl rfl (fun h => by cases h) ?_
      simp only [List.take_succ_cons, List.take_zero]
      refine go_ ?_
      refine run_end ⟨fun h => (by cases h), ?_⟩
      conv => whnf
      refine And.intro (by kernel_rfl) (vcDie_rd (hs) (by kernel_rfl) (by decide) rfl fun a_ j_ ha_ => ?_)
      conv => whnf
      intro σ_ hσ_
      refine go_ ?_
      conv => whnf
      exact ⟨_, [.cells (rdC l j_ e)], rfl, And.intro (And.intro rfl rfl) trivial, (by rw [ho]; exact ⟨rfl, a_, j_, ha_, rfl, rfl⟩), rfl⟩
    | some tj =>
      obtain ⟨t, j⟩ := tj
      have ho : exO (atomE l (f + 1) i) = some (.agg (exC (.mk 1 0 t.num ByteArray.empty [])), j) := by rw [atomE, if_pos h2, ht]; rfl
      rw [ht] at hs
      obtain ⟨tk, tt, tn, ta⟩ := t
      refine go_ ?_
      with_reducible apply run_y
      exact want_
      · intro K hK
        refine ev_ ?_
        refine vcCall_rd (hs.got rfl) (by kernel_rfl) (by decide) rfl ?_
        refine ev_ ?_
        exact hK
      refine go_ ?_
      refine ev_ ?_
      exact ⟨_, [.cells (rdC l (j) e)], .mk rfl (And.intro (And.intro rfl rfl) trivial), (by rw [ho]; exact ⟨rfl, rfl, rfl⟩), rfl, rfl⟩
  have g2 : (kindE l i == 2) = false := by simpa using h2
  by_cases hg : peekE l i = (⟨#[103, 101, 116]⟩ : ByteArray)
  · have hil := peek_lt hg (by decide)
    have hs := s_must l (i + 1) e [⟨#[40]⟩, ⟨#[41]⟩] (by omega) (by simp)
    refine go_ ?_
    with_reducible apply run_y
    exact want_
    · intro K hK
      refine ev_ ?_
      refine vcCall_rd ((s_may_t l i e _ (by omega) hg).got rfl) (by kernel_rfl) (by decide) rfl ?_
      refine ev_ ?_
      exact hK
    refine goto_ 4 ?_
    cases hm : mustE l [⟨#[40]⟩, ⟨#[41]⟩] (i + 1) with
    | none =>
      have ho : exO (atomE l (f + 1) i) = none := by rw [atomE, if_neg h2, if_pos hg, hm]; rfl
      rw [hm] at hs
      try with_reducible apply c_seq
      refine c_die 2 rfl rfl (fun h => by cases h) ?_
      simp only [List.take_succ_cons, List.take_zero]
      refine go_ ?_
      refine run_end ⟨fun h => (by cases h), ?_⟩
      conv => whnf
      refine And.intro (by kernel_rfl) (vcDie_rd (hs) (by kernel_rfl) (by decide) rfl fun a_ j_ ha_ => ?_)
      conv => whnf
      intro σ_ hσ_
      refine go_ ?_
      conv => whnf
      exact ⟨_, [.cells (rdC l j_ e)], rfl, And.intro (And.intro rfl rfl) trivial, (by rw [ho]; exact ⟨rfl, a_, j_, ha_, rfl, rfl⟩), rfl⟩
    | some j =>
      have ho : exO (atomE l (f + 1) i) = some (.agg (exC (.mk 5 0 0 ByteArray.empty [])), j) := by rw [atomE, if_neg h2, if_pos hg, hm]; rfl
      rw [hm] at hs
      refine go_ ?_
      with_reducible apply run_y
      exact want_
      · intro K hK
        refine ev_ ?_
        refine vcCall_rd (hs.got rfl) (by kernel_rfl) (by decide) rfl ?_
        refine ev_ ?_
        exact hK
      refine go_ ?_
      refine ev_ ?_
      exact ⟨_, [.cells (rdC l (j) e)], .mk rfl (And.intro (And.intro rfl rfl) trivial), (by rw [ho]; exact ⟨rfl, rfl, rfl⟩), rfl, rfl⟩
  refine go_ ?_
  with_reducible apply run_y
  exact want_
  · intro K hK
    refine ev_ ?_
    refine vcCall_rd ((s_may_f l i e _ (by omega) hg).got rfl) (by kernel_rfl) (by decide) rfl ?_
    refine ev_ ?_
    exact hK
  refine go_ ?_
  by_cases hp : peekE l i = (⟨#[40]⟩ : ByteArray)
  · have hil := peek_lt hp (by decide)
    with_reducible apply run_y
    exact want_
    · intro K hK
      refine ev_ ?_
      refine vcCall_rd ((s_may_t l i e _ (by omega) hp).got rfl) (by kernel_rfl) (by decide) rfl ?_
      refine ev_ ?_
      exact hK
    refine goto_ 7 ?_
    have hs := hE (i + 1) 1 (by omega) (by omega) (by omega) (by omega)
    cases hx : exprE l f (i + 1) 1 with
    | none =>
      have ho : exO (atomE l (f + 1) i) = none := by rw [atomE, if_neg h2, if_neg hg, if_pos hp, hx]; rfl
      rw [hx] at hs
      try with_reducible apply c_seq
      refine c_die 1 rfl rfl (fun h => by cases h) ?_
      simp only [List.take_succ_cons, List.take_zero]
      refine go_ ?_
      refine run_end ⟨fun h => (by cases h), ?_⟩
      conv => whnf
      refine And.intro (by kernel_rfl) (vcDie_rd (hs) (by kernel_rfl) (by decide) rfl fun a_ j_ ha_ => ?_)
      conv => whnf
      intro σ_ hσ_
      refine go_ ?_
      conv => whnf
      exact ⟨_, [.cells (rdC l j_ e)], rfl, And.intro (And.intro rfl rfl) trivial, (by rw [ho]; exact ⟨rfl, a_, j_, ha_, rfl, rfl⟩), rfl⟩
    | some xj =>
      obtain ⟨x, j⟩ := xj
      have hfar := (far l f).e (i + 1) 1 x j (by omega) (by omega) hx
      rw [hx] at hs
      obtain ⟨xk, xo, xn, xs, xks⟩ := x
      refine go_ ?_
      with_reducible apply run_y
      exact want_
      · intro K hK
        refine ev_ ?_
        refine vcCall_rd (hs.got rfl) (by kernel_rfl) (by decide) rfl ?_
        refine ev_ ?_
        exact hK
      refine goto_ 8 ?_
      have hs2 := s_must l j e [⟨#[41]⟩] (by omega) (by simp)
      cases hm : mustE l [⟨#[41]⟩] j with
      | none =>
        have ho : exO (atomE l (f + 1) i) = none := by rw [atomE, if_neg h2, if_neg hg, if_pos hp, hx]; simp only; rw [hm]; rfl
        rw [hm] at hs2
        try with_reducible apply c_seq
        refine c_die 2 rfl rfl (fun h => by cases h) ?_
        simp only [List.take_succ_cons, List.take_zero]
        refine go_ ?_
        refine run_end ⟨fun h => (by cases h), ?_⟩
        conv => whnf
        refine And.intro (by kernel_rfl) (vcDie_rd (hs2) (by kernel_rfl) (by decide) rfl fun a_ j_ ha_ => ?_)
        conv => whnf
        intro σ_ hσ_
        refine go_ ?_
        conv => whnf
        exact ⟨_, [.cells (rdC l j_ e)], rfl, And.intro (And.intro rfl rfl) trivial, (by rw [ho]; exact ⟨rfl, a_, j_, ha_, rfl, rfl⟩), rfl⟩
      | some k =>
        have ho : exO (atomE l (f + 1) i) = some (.agg (exC (.mk xk xo xn xs xks)), k) := by rw [atomE, if_neg h2, if_neg hg, if_pos hp, hx]; simp only; rw [hm]; rfl
        rw [hm] at hs2
        refine go_ ?_
        with_reducible apply run_y
        exact want_
        · intro K hK
          refine ev_ ?_
          refine vcCall_rd (hs2.got rfl) (by kernel_rfl) (by decide) rfl ?_
          refine ev_ ?_
          exact hK
        refine go_ ?_
        refine ev_ ?_
        exact ⟨_, [.cells (rdC l (k) e)], .mk rfl (And.intro (And.intro rfl rfl) trivial), (by rw [ho]; exact ⟨rfl, rfl, rfl⟩), rfl, rfl⟩
  with_reducible apply run_y
  exact want_
  · intro K hK
    refine ev_ ?_
    refine vcCall_rd ((s_may_f l i e _ (by omega) hp).got rfl) (by kernel_rfl) (by decide) rfl ?_
    refine ev_ ?_
    exact hK
  refine go_ ?_
  by_cases hn : peekE l i = (⟨#[33]⟩ : ByteArray)
  · have hil := peek_lt hn (by decide)
    with_reducible apply run_y
    exact want_
    · intro K hK
      refine ev_ ?_
      refine vcCall_rd ((s_may_t l i e _ (by omega) hn).got rfl) (by kernel_rfl) (by decide) rfl ?_
      refine ev_ ?_
      exact hK
    refine goto_ 11 ?_
    have hs := hA (i + 1) (by omega) (by omega)
    cases hx : atomE l f (i + 1) with
    | none =>
      have ho : exO (atomE l (f + 1) i) = none := by rw [atomE, if_neg h2, if_neg hg, if_neg hp, if_pos hn, hx]; rfl
      rw [hx] at hs
      try with_reducible apply c_seq
      refine c_die 1 rfl rfl (fun h => by cases h) ?_
      simp only [List.take_succ_cons, List.take_zero]
      refine go_ ?_
      refine run_end ⟨fun h => (by cases h), ?_⟩
      conv => whnf
      refine And.intro (by kernel_rfl) (vcDie_rd (hs) (by kernel_rfl) (by decide) rfl fun a_ j_ ha_ => ?_)
      conv => whnf
      intro σ_ hσ_
      refine go_ ?_
      conv => whnf
      exact ⟨_, [.cells (rdC l j_ e)], rfl, And.intro (And.intro rfl rfl) trivial, (by rw [ho]; exact ⟨rfl, a_, j_, ha_, rfl, rfl⟩), rfl⟩
    | some xj =>
      obtain ⟨x, j⟩ := xj
      have ho : exO (atomE l (f + 1) i) = some (.agg (exC (.mk 7 0 0 ByteArray.empty [x])), j) := by rw [atomE, if_neg h2, if_neg hg, if_neg hp, if_pos hn, hx]; rfl
      rw [hx] at hs
      obtain ⟨xk, xo, xn, xs, xks⟩ := x
      refine go_ ?_
      with_reducible apply run_y
      exact want_
      · intro K hK
        refine ev_ ?_
        refine vcCall_rd (hs.got rfl) (by kernel_rfl) (by decide) rfl ?_
        refine ev_ ?_
        exact hK
      refine go_ ?_
      refine ev_ ?_
      exact ⟨_, [.cells (rdC l (j) e)], .mk rfl (And.intro (And.intro rfl rfl) trivial), (by rw [ho]; exact ⟨rfl, rfl, rfl⟩), rfl, rfl⟩
  with_reducible apply run_y
  exact want_
  · intro K hK
    refine ev_ ?_
    refine vcCall_rd ((s_may_f l i e _ (by omega) hn).got rfl) (by kernel_rfl) (by decide) rfl ?_
    refine ev_ ?_
    exact hK
  refine goto_ 12 ?_
  have hs := s_take l i e 1 (by decide) (by omega)
  cases ht : takeE l i 1 with
  | none =>
    have ho : exO (atomE l (f + 1) i) = none := by rw [atomE, if_neg h2, if_neg hg, if_neg hp, if_neg hn, ht]; rfl
    rw [ht] at hs
    try with_reducible apply c_seq
    refine c_die 1 rfl rfl (fun h => by cases h) ?_
    simp only [List.take_succ_cons, List.take_zero]
    refine go_ ?_
    refine run_end ⟨fun h => (by cases h), ?_⟩
    conv => whnf
    refine And.intro (by kernel_rfl) (vcDie_rd (hs) (by kernel_rfl) (by decide) rfl fun a_ j_ ha_ => ?_)
    conv => whnf
    intro σ_ hσ_
    refine go_ ?_
    conv => whnf
    exact ⟨_, [.cells (rdC l j_ e)], rfl, And.intro (And.intro rfl rfl) trivial, (by rw [ho]; exact ⟨rfl, a_, j_, ha_, rfl, rfl⟩), rfl⟩
  | some tj =>
    obtain ⟨t, j⟩ := tj
    obtain ⟨hil, rfl, -, -⟩ := take_some ht
    rw [ht] at hs
    obtain ⟨tk, tt, tn, ta⟩ := t
    refine go_ ?_
    with_reducible apply run_y
    exact want_
    · intro K hK
      refine ev_ ?_
      refine vcCall_rd (hs.got rfl) (by kernel_rfl) (by decide) rfl ?_
      refine ev_ ?_
      exact hK
    refine go_ ?_
    clear hs
    by_cases hb : peekE l (i + 1) = (⟨#[91]⟩ : ByteArray)
    · have hil2 := peek_lt hb (by decide)
      with_reducible apply run_y
      exact want_
      · intro K hK
        refine ev_ ?_
        refine vcCall_rd ((s_may_t l (i + 1) e _ (by omega) hb).got rfl) (by kernel_rfl) (by decide) rfl ?_
        refine ev_ ?_
        exact hK
      refine goto_ 15 ?_
      have hs := hE (i + 1 + 1) 1 (by omega) (by omega) (by omega) (by omega)
      cases hx : exprE l f (i + 1 + 1) 1 with
      | none =>
        have ho : exO (atomE l (f + 1) i) = none := by rw [atomE, if_neg h2, if_neg hg, if_neg hp, if_neg hn, ht]; simp only; rw [if_pos hb, hx]; rfl
        rw [hx] at hs
        try with_reducible apply c_seq
        refine c_die 1 rfl rfl (fun h => by cases h) ?_
        simp only [List.take_succ_cons, List.take_zero]
        refine go_ ?_
        refine run_end ⟨fun h => (by cases h), ?_⟩
        conv => whnf
        refine And.intro (by kernel_rfl) (vcDie_rd (hs) (by kernel_rfl) (by decide) rfl fun a_ j_ ha_ => ?_)
        conv => whnf
        intro σ_ hσ_
        refine go_ ?_
        conv => whnf
        exact ⟨_, [.cells (rdC l j_ e)], rfl, And.intro (And.intro rfl rfl) trivial, (by rw [ho]; exact ⟨rfl, a_, j_, ha_, rfl, rfl⟩), rfl⟩
      | some xj =>
        obtain ⟨x, k⟩ := xj
        have hfar := (far l f).e (i + 1 + 1) 1 x k (by omega) (by omega) hx
        rw [hx] at hs
        obtain ⟨xk, xo, xn, xs, xks⟩ := x
        refine go_ ?_
        with_reducible apply run_y
        exact want_
        · intro K hK
          refine ev_ ?_
          refine vcCall_rd (hs.got rfl) (by kernel_rfl) (by decide) rfl ?_
          refine ev_ ?_
          exact hK
        refine goto_ 16 ?_
        have hs2 := s_must l k e [⟨#[93]⟩] (by omega) (by simp)
        cases hm : mustE l [⟨#[93]⟩] k with
        | none =>
          have ho : exO (atomE l (f + 1) i) = none := by rw [atomE, if_neg h2, if_neg hg, if_neg hp, if_neg hn, ht]; simp only; rw [if_pos hb, hx]; simp only; rw [hm]; rfl
          rw [hm] at hs2
          try with_reducible apply c_seq
          refine c_die 2 rfl rfl (fun h => by cases h) ?_
          simp only [List.take_succ_cons, List.take_zero]
          refine go_ ?_
          refine run_end ⟨fun h => (by cases h), ?_⟩
          conv => whnf
          refine And.intro (by kernel_rfl) (vcDie_rd (hs2) (by kernel_rfl) (by decide) rfl fun a_ j_ ha_ => ?_)
          conv => whnf
          intro σ_ hσ_
          refine go_ ?_
          conv => whnf
          exact ⟨_, [.cells (rdC l j_ e)], rfl, And.intro (And.intro rfl rfl) trivial, (by rw [ho]; exact ⟨rfl, a_, j_, ha_, rfl, rfl⟩), rfl⟩
        | some n =>
          have ho : exO (atomE l (f + 1) i) = some (.agg (exC (.mk 3 0 0 tt [.mk xk xo xn xs xks])), n) := by rw [atomE, if_neg h2, if_neg hg, if_neg hp, if_neg hn, ht]; simp only; rw [if_pos hb, hx]; simp only; rw [hm]; rfl
          rw [hm] at hs2
          refine go_ ?_
          with_reducible apply run_y
          exact want_
          · intro K hK
            refine ev_ ?_
            refine vcCall_rd (hs2.got rfl) (by kernel_rfl) (by decide) rfl ?_
            refine ev_ ?_
            exact hK
          refine go_ ?_
          refine ev_ ?_
          exact ⟨_, [.cells (rdC l (n) e)], .mk rfl (And.intro (And.intro rfl rfl) trivial), (by rw [ho]; exact ⟨rfl, rfl, rfl⟩), rfl, rfl⟩
    with_reducible apply run_y
    exact want_
    · intro K hK
      refine ev_ ?_
      refine vcCall_rd ((s_may_f l (i + 1) e _ (by omega) hb).got rfl) (by kernel_rfl) (by decide) rfl ?_
      refine ev_ ?_
      exact hK
    refine go_ ?_
    by_cases hc : peekE l (i + 1) = (⟨#[40]⟩ : ByteArray)
    · have hil2 := peek_lt hc (by decide)
      with_reducible apply run_y
      exact want_
      · intro K hK
        refine ev_ ?_
        refine vcCall_rd ((s_may_t l (i + 1) e _ (by omega) hc).got rfl) (by kernel_rfl) (by decide) rfl ?_
        refine ev_ ?_
        exact hK
      refine goto_ 19 ?_
      have hs := hG (i + 1 + 1) (by omega) (by omega)
      cases hx : argsE l f (i + 1 + 1) with
      | none =>
        have ho : exO (atomE l (f + 1) i) = none := by rw [atomE, if_neg h2, if_neg hg, if_neg hp, if_neg hn, ht]; simp only; rw [if_neg hb, if_pos hc, hx]; rfl
        rw [hx] at hs
        try with_reducible apply c_seq
        refine c_die 1 rfl rfl (fun h => by cases h) ?_
        simp only [List.take_succ_cons, List.take_zero]
        refine go_ ?_
        refine run_end ⟨fun h => (by cases h), ?_⟩
        conv => whnf
        refine And.intro (by kernel_rfl) (vcDie_rd (hs) (by kernel_rfl) (by decide) rfl fun a_ j_ ha_ => ?_)
        conv => whnf
        intro σ_ hσ_
        refine go_ ?_
        conv => whnf
        exact ⟨_, [.cells (rdC l j_ e)], rfl, And.intro (And.intro rfl rfl) trivial, (by rw [ho]; exact ⟨rfl, a_, j_, ha_, rfl, rfl⟩), rfl⟩
      | some xj =>
        obtain ⟨xs, k⟩ := xj
        have ho : exO (atomE l (f + 1) i) = some (.agg (exC (.mk 4 0 0 tt xs)), k) := by rw [atomE, if_neg h2, if_neg hg, if_neg hp, if_neg hn, ht]; simp only; rw [if_neg hb, if_pos hc, hx]; rfl
        rw [hx] at hs
        refine go_ ?_
        with_reducible apply run_y
        exact want_
        · intro K hK
          refine ev_ ?_
          refine vcCall_rd (hs.got rfl) (by kernel_rfl) (by decide) rfl ?_
          refine ev_ ?_
          exact hK
        refine go_ ?_
        refine ev_ ?_
        exact ⟨_, [.cells (rdC l (k) e)], .mk rfl (And.intro (And.intro rfl rfl) trivial), (by rw [ho]; exact ⟨rfl, rfl, rfl⟩), rfl, rfl⟩
    have ho : exO (atomE l (f + 1) i) = some (.agg (exC (.mk 2 0 0 tt [])), i + 1) := by rw [atomE, if_neg h2, if_neg hg, if_neg hp, if_neg hn, ht]; simp only; rw [if_neg hb, if_neg hc]; rfl
    with_reducible apply run_y
    exact want_
    · intro K hK
      refine ev_ ?_
      refine vcCall_rd ((s_may_f l (i + 1) e _ (by omega) hc).got rfl) (by kernel_rfl) (by decide) rfl ?_
      refine ev_ ?_
      exact hK
    refine go_ ?_
    refine ev_ ?_
    exact ⟨_, [.cells (rdC l (i + 1) e)], .mk rfl (And.intro (And.intro rfl rfl) trivial), (by rw [ho]; exact ⟨rfl, rfl, rfl⟩), rfl, rfl⟩
end Go.Proofs.YtddggjmfplohkaaDoor
