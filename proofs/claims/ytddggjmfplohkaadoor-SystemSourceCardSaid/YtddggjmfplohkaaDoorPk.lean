import Derived.Test.YtddggjmfplohkaaDoorPh
/- The reader: statements and rows of statements, in plain Lean. -/
namespace Go.Proofs.YtddggjmfplohkaaDoor
open Go Go.RowKit
mutual
def stmtE (l : List Tk) : Nat → Nat → Option (Sm × Nat)
  | 0, _ => none
  | f + 1, i =>
    if peekE l i = (⟨#[112, 117, 116]⟩ : ByteArray) then (match roundE l (i + 1) with
      | none => none
      | some (x, j) => match mustE l [⟨#[59]⟩] j with
        | none => none
        | some k => some (.mk 3 ByteArray.empty [x] [] [], k))
    else if peekE l i = (⟨#[114, 101, 116, 117, 114, 110]⟩ : ByteArray) then
      (if peekE l (i + 1) = (⟨#[59]⟩ : ByteArray) then some (.mk 7 ByteArray.empty [] [] [], i + 1 + 1)
      else match exprE l (fuE l) (i + 1) 1 with
        | none => none
        | some (x, j) => match mustE l [⟨#[59]⟩] j with
          | none => none
          | some k => some (.mk 7 ByteArray.empty [x] [] [], k))
    else if peekE l i = (⟨#[105, 102]⟩ : ByteArray) then (match roundE l (i + 1) with
      | none => none
      | some (x, j) => match bodyE l f j with
        | none => none
        | some (t, k) => if peekE l k = (⟨#[101, 108, 115, 101]⟩ : ByteArray) then (match bodyE l f (k + 1) with
            | none => none
            | some (b, n) => some (.mk 4 ByteArray.empty [x] t b, n))
          else some (.mk 4 ByteArray.empty [x] t [], k))
    else if peekE l i = (⟨#[119, 104, 105, 108, 101]⟩ : ByteArray) then (match roundE l (i + 1) with
      | none => none
      | some (x, j) => match bodyE l f j with
        | none => none
        | some (t, k) => some (.mk 5 ByteArray.empty [x] t [], k))
    else namedE l i
def bodyE (l : List Tk) : Nat → Nat → Option (List Sm × Nat)
  | 0, _ => none
  | f + 1, i => match mustE l [⟨#[123]⟩] i with
    | none => none
    | some j => stmtsE l f j
def stmtsE (l : List Tk) : Nat → Nat → Option (List Sm × Nat)
  | 0, _ => none
  | f + 1, j =>
    if peekE l j = (⟨#[125]⟩ : ByteArray) then some ([], j + 1)
    else match stmtE l f j with
      | none => none
      | some (x, k) => match stmtsE l f k with
        | none => none
        | some (r, n) => some (x :: r, n)
end
theorem named_far {l : List Tk} {i j : Nat} {x : Sm} (h : namedE l i = some (x, j)) : i < j ∧ j ≤ l.length := by
  unfold namedE at h
  cases ht : takeE l i 1 with
  | none => rw [ht] at h; cases h
  | some tj =>
    obtain ⟨t, k⟩ := tj
    obtain ⟨h0, rfl, -, -⟩ := take_some ht
    rw [ht] at h
    simp only at h
    cases h1 : namE l (i + 1) with
    | none => rw [h1] at h; cases h
    | some zn =>
      obtain ⟨⟨z, es⟩, n⟩ := zn
      rw [h1] at h
      simp only at h
      have q1 := nam_far (by omega) h1
      cases h2 : mustE l [⟨#[59]⟩] n with
      | none => rw [h2] at h; cases h
      | some q =>
        rw [h2] at h
        cases h
        have q2 := must_far h2 (by simp; decide) q1.2
        omega
structure FarS (l : List Tk) (f : Nat) : Prop where
  s : ∀ i x j, i ≤ l.length → stmtE l f i = some (x, j) → i < j ∧ j ≤ l.length
  b : ∀ i x j, i ≤ l.length → bodyE l f i = some (x, j) → i < j ∧ j ≤ l.length
  ss : ∀ i x j, i ≤ l.length → stmtsE l f i = some (x, j) → i < j ∧ j ≤ l.length
theorem farS (l : List Tk) : ∀ f, FarS l f
  | 0 => ⟨fun _ _ _ _ h => by simp [stmtE] at h, fun _ _ _ _ h => by simp [bodyE] at h, fun _ _ _ _ h => by simp [stmtsE] at h⟩
  | f + 1 => by
    have ih := farS l f
    refine ⟨fun i x j hi h => ?_, fun i x j hi h => ?_, fun i x j hi h => ?_⟩
    · rw [stmtE] at h
      split at h
      · rename_i hp
        have h0 := peek_lt hp (by decide)
        cases h1 : roundE l (i + 1) with
        | none => rw [h1] at h; cases h
        | some xj =>
          obtain ⟨y, k⟩ := xj
          rw [h1] at h
          simp only at h
          have q1 := round_far (by omega) h1
          cases h2 : mustE l [⟨#[59]⟩] k with
          | none => rw [h2] at h; cases h
          | some q =>
            rw [h2] at h
            cases h
            have q2 := must_far h2 (by simp; decide) q1.2
            omega
      · split at h
        · rename_i hp
          have h0 := peek_lt hp (by decide)
          split at h
          · rename_i hp2
            have h02 := peek_lt hp2 (by decide)
            cases h
            omega
          · cases h1 : exprE l (fuE l) (i + 1) 1 with
            | none => rw [h1] at h; cases h
            | some xj =>
              obtain ⟨y, k⟩ := xj
              rw [h1] at h
              simp only at h
              have q1 := (far l (fuE l)).e (i + 1) 1 y k (by omega) (by omega) h1
              cases h2 : mustE l [⟨#[59]⟩] k with
              | none => rw [h2] at h; cases h
              | some q =>
                rw [h2] at h
                cases h
                have q2 := must_far h2 (by simp; decide) q1.2
                omega
        · split at h
          · rename_i hp
            have h0 := peek_lt hp (by decide)
            cases h1 : roundE l (i + 1) with
            | none => rw [h1] at h; cases h
            | some xj =>
              obtain ⟨y, k⟩ := xj
              rw [h1] at h
              simp only at h
              have q1 := round_far (by omega) h1
              cases h2 : bodyE l f k with
              | none => rw [h2] at h; cases h
              | some tq =>
                obtain ⟨t, q⟩ := tq
                rw [h2] at h
                simp only at h
                have q2 := ih.b k t q q1.2 h2
                split at h
                · rename_i hp2
                  have h02 := peek_lt hp2 (by decide)
                  cases h3 : bodyE l f (q + 1) with
                  | none => rw [h3] at h; cases h
                  | some bn =>
                    obtain ⟨b, n⟩ := bn
                    rw [h3] at h
                    cases h
                    have q3 := ih.b (q + 1) b _ (by omega) h3
                    omega
                · cases h
                  omega
          · split at h
            · rename_i hp
              have h0 := peek_lt hp (by decide)
              cases h1 : roundE l (i + 1) with
              | none => rw [h1] at h; cases h
              | some xj =>
                obtain ⟨y, k⟩ := xj
                rw [h1] at h
                simp only at h
                have q1 := round_far (by omega) h1
                cases h2 : bodyE l f k with
                | none => rw [h2] at h; cases h
                | some tq =>
                  obtain ⟨t, q⟩ := tq
                  rw [h2] at h
                  cases h
                  have q2 := ih.b k t _ q1.2 h2
                  omega
            · exact named_far h
    · rw [bodyE] at h
      cases h1 : mustE l [⟨#[123]⟩] i with
      | none => rw [h1] at h; cases h
      | some k =>
        rw [h1] at h
        have q1 := must_far h1 (by simp; decide) hi
        simp only [List.length_cons, List.length_nil] at q1
        have q2 := ih.ss k x j q1.2 h
        omega
    · rw [stmtsE] at h
      split at h
      · rename_i hp
        have h0 := peek_lt hp (by decide)
        cases h
        omega
      · cases h1 : stmtE l f i with
        | none => rw [h1] at h; cases h
        | some xk =>
          obtain ⟨y, k⟩ := xk
          rw [h1] at h
          simp only at h
          have q1 := ih.s i y k hi h1
          cases h2 : stmtsE l f k with
          | none => rw [h2] at h; cases h
          | some rn =>
            obtain ⟨r, n⟩ := rn
            rw [h2] at h
            cases h
            have q2 := ih.ss k r _ q1.2 h2
            omega
/-- What is said of statements, of so much fuel. -/
def TS (l : List Tk) (e : Int) (f : Nat) : Prop := ∀ i, i ≤ l.length → 3 * (l.length - i) + 2 ≤ f → SpecRd 85 [] l i e (smO (stmtE l f i))
def TB (l : List Tk) (e : Int) (f : Nat) : Prop := ∀ i, i ≤ l.length → 3 * (l.length - i) + 4 ≤ f → SpecRd 95 [] l i e (smsO [] (bodyE l f i))
def TSS (l : List Tk) (e : Int) (f : Nat) : Prop := ∀ i, i ≤ l.length → 3 * (l.length - i) + 3 ≤ f → SpecRd 69 [] l i e (smsO [] (stmtsE l f i))
end Go.Proofs.YtddggjmfplohkaaDoor

/- The reader: statements, walked. -/
namespace Go.Proofs.YtddggjmfplohkaaDoor
open Go Go.RowKit
theorem smsC_app (l l' : List Sm) : smsC l ++ smsC l' = smsC (l ++ l') := by rw [smsC_eq, smsC_eq, smsC_eq, List.map_append]
theorem smsC_wide' (l : List Sm) (i : Nat) (h : i < (smsC l).length) : ((smsC l).getD i []).length = 5 := by
  rw [smsC_eq] at h ⊢
  have h : i < l.length := by simpa using h
  rw [show (l.map smC).getD i [] = smC l[i] by simp [List.getD, h]]
  generalize l[i] = e
  obtain ⟨_, _, _, _, _⟩ := e
  rfl
theorem appOk_sm {zs sz by_ : Nat} {l l' : List Sm} (hz : zs = 5) (hs : sz = 5) (hb : by_ ≤ 200) (h : l.length + l'.length ≤ 100000000) : AppOk zs sz by_ (smsC l) (smsC l') := by
  subst hz hs
  refine ⟨rfl, by omega, smsC_wide' l, smsC_wide' l', by rw [smsC_len, smsC_len]; simp only [maxLen]; omega, ?_⟩
  rw [smsC_len, smsC_len]
  have : (l.length + l'.length) * by_ ≤ (l.length + l'.length) * 200 := Nat.mul_le_mul_left _ hb
  omega
set_option maxHeartbeats 8000000 in
set_option maxRecDepth 100000 in
theorem s_body (l : List Tk) (e : Int) (hl : l.length ≤ 100000) (f : Nat) (hS : TSS l e f) (i : Nat) (hi : i ≤ l.length) (hf : 3 * (l.length - i) + 4 ≤ f + 1) : SpecRd 95 [] l i e (smsO [] (bodyE l (f + 1) i)) := by
  unfold SpecRd
  have hs := s_must l i e [⟨#[123]⟩] (by omega) (by simp)
  cases h1 : mustE l [⟨#[123]⟩] i with
  | none =>
    have ho : smsO [] (bodyE l (f + 1) i) = none := by rw [bodyE, h1]; rfl
    rw [h1] at hs
    refine spec_of_bodyR CX_mixed CU_gpk Tryd.func95 rfl 8 1 (fun c hc => by rw [List.mem_singleton.1 hc]; rfl) rfl rfl ?_
    refine goto_ 1 ?_
    try with_reducible apply c_seq
    refine c_die 2 rfl rfl (fun h => by cases h) ?_
    simp only [List.take_succ_cons, List.take_zero]
    refine go_ ?_
    refine run_end ⟨fun h => (by cases h), ?_⟩
    conv => whnf
    refine And.intro (by kernel_rfl) (vcDie_rd (hs) (by kernel_rfl) (by decide) rfl fun a_ j_ ha_ => ?_)
    conv => whnf
    intro σ_ hσ_
    refine go_ ?_
    conv => whnf
    exact ⟨_, [.cells (rdC l j_ e)], rfl, And.intro (And.intro rfl rfl) trivial, (by rw [ho]; exact ⟨rfl, a_, j_, ha_, rfl, rfl⟩), rfl⟩
  | some j =>
    have q1 := must_far h1 (by simp; decide) hi
    simp only [List.length_cons, List.length_nil] at q1
    have ho : smsO [] (bodyE l (f + 1) i) = smsO [] (stmtsE l f j) := by rw [bodyE, h1]
    rw [h1] at hs
    rw [ho]
    have hs2 := hS j q1.2 (by omega)
    refine spec_of_bodyR CX_mixed CU_gpk Tryd.func95 rfl 8 1 (fun c hc => by rw [List.mem_singleton.1 hc]; rfl) rfl rfl ?_
    refine go_ ?_
    with_reducible apply run_y
    exact want_
    · intro K hK
      refine ev_ ?_
      refine vcCall_rd (hs.got rfl) (by kernel_rfl) (by decide) rfl ?_
      refine ev_ ?_
      exact hK
    refine goto_ 2 ?_
    cases h2 : stmtsE l f j with
    | none =>
      rw [h2] at hs2
      try with_reducible apply c_seq
      refine c_die 1 rfl rfl (fun h => by cases h) ?_
      simp only [List.take_succ_cons, List.take_zero]
      refine go_ ?_
      refine run_end ⟨fun h => (by cases h), ?_⟩
      conv => whnf
      refine And.intro (by kernel_rfl) (vcDie_rd (hs2) (by kernel_rfl) (by decide) rfl fun a_ j_ ha_ => ?_)
      conv => whnf
      intro σ_ hσ_
      refine go_ ?_
      conv => whnf
      exact ⟨_, [.cells (rdC l j_ e)], rfl, And.intro (And.intro rfl rfl) trivial, (by rw [show smsO [] none = none from rfl]; exact ⟨rfl, a_, j_, ha_, rfl, rfl⟩), rfl⟩
    | some xk =>
      obtain ⟨x, k⟩ := xk
      rw [h2] at hs2
      refine go_ ?_
      with_reducible apply run_y
      exact want_
      · intro K hK
        refine ev_ ?_
        refine vcCall_rd (hs2.got rfl) (by kernel_rfl) (by decide) rfl ?_
        refine ev_ ?_
        exact hK
      refine go_ ?_
      refine ev_ ?_
      exact ⟨_, [.cells (rdC l (k) e)], .mk rfl (And.intro (And.intro rfl rfl) trivial), (by exact ⟨rfl, rfl, rfl⟩), rfl, rfl⟩
set_option maxHeartbeats 8000000 in
set_option maxRecDepth 100000 in
theorem s_pstmts (l : List Tk) (e : Int) (hl : l.length ≤ 100000) (f : Nat) (hT : ∀ f', f' ≤ f → TS l e f') (i : Nat) (hi : i ≤ l.length) (hf : 3 * (l.length - i) + 3 ≤ f + 1) : SpecRd 69 [] l i e (smsO [] (stmtsE l (f + 1) i)) := by
  unfold SpecRd
  refine spec_of_bodyR CX_mixed CU_gpk Tryd.func69 rfl 13 1 (fun c hc => by rw [List.mem_singleton.1 hc]; rfl) rfl rfl ?_
  refine go_ ?_
  refine c_loop (fun k q m h => ∃ (acc : List Sm) (f2 j2 : Nat), acc.length ≤ j2 ∧ f2 ≤ f + 1 ∧ j2 ≤ l.length ∧ 3 * (l.length - j2) + 3 ≤ f2 ∧ smsO acc (stmtsE l f2 j2) = smsO [] (stmtsE l (f + 1) i) ∧ k = f2 ∧
      ((q = [.ptr 1 0, .top, .top, .sl .full (smsC acc)] ++ List.replicate 9 .top ∧ m = 2 ∧ h = [(1, .cells (rdC l j2 e))]) ∨
       (q = [.ptr 1 0, .top, .top, .sl (.own 2) (smsC acc)] ++ List.replicate 9 .top ∧ m = 3 ∧ h = [(1, .cells (rdC l j2 e)), (2, .row (smsC acc).length 82)])))
    ⟨_, _, _, _, ?_, ?_, ⟨[], f + 1, i, Nat.zero_le _, Nat.le_refl _, hi, hf, rfl, rfl, .inl ⟨rfl, rfl, rfl⟩⟩⟩ ?_
  · rfl
  · skip
    exact sub_
  rintro k q m h hlen ⟨acc, f2, j2, hac, hf2, hj2, hm2, hout, rfl, hq⟩
  clear hlen
  cases k with
  | zero => exfalso; omega
  | succ f2 =>
    rw [stmtsE] at hout
    by_cases hp : peekE l j2 = (⟨#[125]⟩ : ByteArray)
    · have hjl := peek_lt hp (by decide)
      rw [if_pos hp] at hout
      have hout2 : smsO [] (stmtsE l (f + 1) i) = some (.sl .any (smsC acc), j2 + 1) := by rw [← hout]; simp [smsO]
      rcases hq with ⟨rfl, rfl, rfl⟩ | ⟨rfl, rfl, rfl⟩
      · skip
        refine go_ ?_
        with_reducible apply run_y
        exact want_
        · intro K hK
          refine ev_ ?_
          refine vcCall_rd ((s_may_t l j2 e _ (by omega) hp).got rfl) (by kernel_rfl) (by decide) rfl ?_
          refine ev_ ?_
          exact hK
        refine go_ ?_
        refine ev_ ?_
        exact ⟨_, [.cells (rdC l (j2 + 1) e)], .mk rfl (And.intro (And.intro rfl rfl) trivial), (by rw [hout2]; exact ⟨rfl, rfl, rfl⟩), rfl, rfl⟩
      · skip
        refine go_ ?_
        with_reducible apply run_y
        exact want_
        · intro K hK
          refine ev_ ?_
          refine vcCall_rd ((s_may_t l j2 e _ (by omega) hp).got rfl) (by kernel_rfl) (by decide) rfl ?_
          refine ev_ ?_
          exact hK
        refine go_ ?_
        refine ev_ ?_
        exact ⟨_, [.cells (rdC l (j2 + 1) e)], .mk rfl (And.intro (And.intro rfl rfl) trivial), (by rw [hout2]; exact ⟨rfl, rfl, rfl⟩), rfl, rfl⟩
    · rw [if_neg hp] at hout
      have hs := hT f2 (by omega) j2 hj2 (by omega)
      cases hx : stmtE l f2 j2 with
      | none =>
        rw [hx] at hout hs
        rcases hq with ⟨rfl, rfl, rfl⟩ | ⟨rfl, rfl, rfl⟩
        · skip
          refine go_ ?_
          with_reducible apply run_y
          exact want_
          · intro K hK
            refine ev_ ?_
            refine vcCall_rd ((s_may_f l j2 e _ (by omega) hp).got rfl) (by kernel_rfl) (by decide) rfl ?_
            refine ev_ ?_
            exact hK
          refine goto_ 3 ?_
          try with_reducible apply c_seq
          refine c_die 2 rfl rfl (fun h => by cases h) ?_
          simp only [List.take_succ_cons, List.take_zero]
          refine go_ ?_
          refine run_end ⟨fun h => (by cases h), ?_⟩
          conv => whnf
          refine And.intro (by kernel_rfl) (vcDie_rd (hs) (by kernel_rfl) (by decide) rfl fun a_ j_ ha_ => ?_)
          conv => whnf
          intro σ_ hσ_
          refine go_ ?_
          conv => whnf
          exact ⟨_, [.cells (rdC l j_ e)], rfl, And.intro (And.intro rfl rfl) trivial, (by rw [← hout]; exact ⟨rfl, a_, j_, ha_, rfl, rfl⟩), rfl⟩
        · skip
          refine go_ ?_
          with_reducible apply run_y
          exact want_
          · intro K hK
            refine ev_ ?_
            refine vcCall_rd ((s_may_f l j2 e _ (by omega) hp).got rfl) (by kernel_rfl) (by decide) rfl ?_
            refine ev_ ?_
            exact hK
          refine goto_ 3 ?_
          try with_reducible apply c_seq
          refine c_die 2 rfl rfl (fun h => by cases h) ?_
          simp only [List.take_succ_cons, List.take_zero]
          refine go_ ?_
          refine run_end ⟨fun h => (by cases h), ?_⟩
          conv => whnf
          refine And.intro (by kernel_rfl) (vcDie_rd (hs) (by kernel_rfl) (by decide) rfl fun a_ j_ ha_ => ?_)
          conv => whnf
          intro σ_ hσ_
          refine go_ ?_
          conv => whnf
          exact ⟨_, [.cells (rdC l j_ e)], rfl, And.intro (And.intro rfl rfl) trivial, (by rw [← hout]; exact ⟨rfl, a_, j_, ha_, rfl, rfl⟩), rfl⟩
      | some yj =>
        obtain ⟨y, k⟩ := yj
        rw [hx] at hout hs
        have hfar := (farS l f2).s j2 y k hj2 hx
        have hout2 : smsO (acc ++ [y]) (stmtsE l f2 k) = smsO [] (stmtsE l (f + 1) i) := by
          rw [← hout]
          simp only
          cases stmtsE l f2 k with
          | none => rfl
          | some rn =>
            obtain ⟨r, n⟩ := rn
            simp [smsO]
        clear hout hx
        obtain ⟨zk, zs, ze, zt, zf⟩ := y
        rcases hq with ⟨rfl, rfl, rfl⟩ | ⟨rfl, rfl, rfl⟩
        · skip
          refine go_ ?_
          with_reducible apply run_y
          exact want_
          · intro K hK
            refine ev_ ?_
            refine vcCall_rd ((s_may_f l j2 e _ (by omega) hp).got rfl) (by kernel_rfl) (by decide) rfl ?_
            refine ev_ ?_
            exact hK
          refine go_ ?_
          with_reducible apply run_y
          exact want_
          · intro K hK
            refine ev_ ?_
            refine vcCall_rd (hs.got rfl) (by kernel_rfl) (by decide) rfl ?_
            refine ev_ ?_
            exact hK
          refine go_ ?_
          with_reducible apply run_y
          exact want_
          · intro K hK
            refine ev_ ?_
            refine ⟨smsC (acc ++ [Sm.mk zk zs ze zt zf]), smsC_app acc [Sm.mk zk zs ze zt zf], appOk_sm (l := acc) (l' := [Sm.mk zk zs ze zt zf]) rfl rfl (by decide) (by simp; omega), ?_⟩
            conv => whnf
            refine Or.inl ?_
            refine ev_ ?_
            exact hK
          refine go_ ?_
          refine c_round ⟨_, _, _, _, ?_, ?_, ?_, ⟨acc ++ [.mk zk zs ze zt zf], f2, k, by simp; omega, by omega, hfar.2, by omega, hout2, rfl, .inr ⟨rfl, rfl, rfl⟩⟩⟩
          · omega
          · rfl
          · skip
            exact sub_
        · skip
          refine go_ ?_
          with_reducible apply run_y
          exact want_
          · intro K hK
            refine ev_ ?_
            refine vcCall_rd ((s_may_f l j2 e _ (by omega) hp).got rfl) (by kernel_rfl) (by decide) rfl ?_
            refine ev_ ?_
            exact hK
          refine go_ ?_
          with_reducible apply run_y
          exact want_
          · intro K hK
            refine ev_ ?_
            refine vcCall_rd (hs.got rfl) (by kernel_rfl) (by decide) rfl ?_
            refine ev_ ?_
            exact hK
          refine go_ ?_
          with_reducible apply run_y
          exact want_
          · intro K hK
            refine ev_ ?_
            refine ⟨smsC (acc ++ [Sm.mk zk zs ze zt zf]), smsC_app acc [Sm.mk zk zs ze zt zf], appOk_sm (l := acc) (l' := [Sm.mk zk zs ze zt zf]) rfl rfl (by decide) (by simp; omega), ?_⟩
            refine ev_ ?_
            exact hK
          refine go_ ?_
          refine c_round ⟨_, _, _, _, ?_, ?_, ?_, ⟨acc ++ [.mk zk zs ze zt zf], f2, k, by simp; omega, by omega, hfar.2, by omega, hout2, rfl, .inr ⟨rfl, rfl, rfl⟩⟩⟩
          · omega
          · rfl
          · skip
            exact sub_
set_option maxHeartbeats 8000000 in
set_option maxRecDepth 100000 in
theorem s_pstmt (l : List Tk) (e : Int) (hl : l.length ≤ 100000) (f : Nat) (hB : TB l e f) (i : Nat) (hi : i ≤ l.length) (hf : 3 * (l.length - i) + 2 ≤ f + 1) : SpecRd 85 [] l i e (smO (stmtE l (f + 1) i)) := by
  unfold SpecRd
  refine spec_of_bodyR CX_mixed CU_gpk Tryd.func85 rfl 55 1 (fun c hc => by rw [List.mem_singleton.1 hc]; rfl) rfl rfl ?_
  refine go_ ?_
  by_cases h1 : peekE l i = (⟨#[112, 117, 116]⟩ : ByteArray)
  · have h0 := peek_lt h1 (by decide)
    with_reducible apply run_y
    exact want_
    · intro K hK
      refine ev_ ?_
      refine vcCall_rd ((s_may_t l i e _ (by omega) h1).got rfl) (by kernel_rfl) (by decide) rfl ?_
      refine ev_ ?_
      exact hK
    refine goto_ 2 ?_
    have hs := s_round l e hl (i + 1) (by omega)
    cases hx : roundE l (i + 1) with
    | none =>
      have ho : smO (stmtE l (f + 1) i) = none := by rw [stmtE, if_pos h1, hx]; rfl
      rw [hx] at hs
      try with_reducible apply c_seq
      refine c_die 1 rfl rfl (fun h => by cases h) ?_
      simp only [List.take_succ_cons, List.take_zero]
      refine go_ ?_
      refine run_end ⟨fun h => (by cases h), ?_⟩
      conv => whnf
      refine And.intro (by kernel_rfl) (vcDie_rd (hs) (by kernel_rfl) (by decide) rfl fun a_ j_ ha_ => ?_)
      conv => whnf
      intro σ_ hσ_
      refine go_ ?_
      conv => whnf
      exact ⟨_, [.cells (rdC l j_ e)], rfl, And.intro (And.intro rfl rfl) trivial, (by rw [ho]; exact ⟨rfl, a_, j_, ha_, rfl, rfl⟩), rfl⟩
    | some xj =>
      obtain ⟨x, j⟩ := xj
      have q1 := round_far (by omega) hx
      rw [hx] at hs
      have hs2 := s_must l j e [⟨#[59]⟩] (by omega) (by simp)
      refine go_ ?_
      with_reducible apply run_y
      exact want_
      · intro K hK
        refine ev_ ?_
        refine vcCall_rd (hs.got rfl) (by kernel_rfl) (by decide) rfl ?_
        refine ev_ ?_
        exact hK
      refine goto_ 3 ?_
      cases hm : mustE l [⟨#[59]⟩] j with
      | none =>
        have ho : smO (stmtE l (f + 1) i) = none := by rw [stmtE, if_pos h1, hx]; simp only; rw [hm]; rfl
        rw [hm] at hs2
        try with_reducible apply c_seq
        refine c_die 2 rfl rfl (fun h => by cases h) ?_
        simp only [List.take_succ_cons, List.take_zero]
        refine go_ ?_
        refine run_end ⟨fun h => (by cases h), ?_⟩
        conv => whnf
        refine And.intro (by kernel_rfl) (vcDie_rd (hs2) (by kernel_rfl) (by decide) rfl fun a_ j_ ha_ => ?_)
        conv => whnf
        intro σ_ hσ_
        refine go_ ?_
        conv => whnf
        exact ⟨_, [.cells (rdC l j_ e)], rfl, And.intro (And.intro rfl rfl) trivial, (by rw [ho]; exact ⟨rfl, a_, j_, ha_, rfl, rfl⟩), rfl⟩
      | some k =>
        have ho : smO (stmtE l (f + 1) i) = some (.agg (smC (.mk 3 ByteArray.empty [x] [] [])), k) := by rw [stmtE, if_pos h1, hx]; simp only; rw [hm]; rfl
        rw [hm] at hs2
        refine go_ ?_
        with_reducible apply run_y
        exact want_
        · intro K hK
          refine ev_ ?_
          refine vcCall_rd (hs2.got rfl) (by kernel_rfl) (by decide) rfl ?_
          refine ev_ ?_
          exact hK
        refine go_ ?_
        refine ev_ ?_
        exact ⟨_, [.cells (rdC l (k) e)], .mk rfl (And.intro (And.intro rfl rfl) trivial), (by rw [ho]; exact ⟨rfl, rfl, rfl⟩), rfl, rfl⟩
  with_reducible apply run_y
  exact want_
  · intro K hK
    refine ev_ ?_
    refine vcCall_rd ((s_may_f l i e _ (by omega) h1).got rfl) (by kernel_rfl) (by decide) rfl ?_
    refine ev_ ?_
    exact hK
  refine go_ ?_
  by_cases h2 : peekE l i = (⟨#[114, 101, 116, 117, 114, 110]⟩ : ByteArray)
  · have h0 := peek_lt h2 (by decide)
    with_reducible apply run_y
    exact want_
    · intro K hK
      refine ev_ ?_
      refine vcCall_rd ((s_may_t l i e _ (by omega) h2).got rfl) (by kernel_rfl) (by decide) rfl ?_
      refine ev_ ?_
      exact hK
    refine go_ ?_
    by_cases h3 : peekE l (i + 1) = (⟨#[59]⟩ : ByteArray)
    · have h03 := peek_lt h3 (by decide)
      have ho : smO (stmtE l (f + 1) i) = some (.agg (smC (.mk 7 ByteArray.empty [] [] [])), i + 1 + 1) := by rw [stmtE, if_neg h1, if_pos h2, if_pos h3]; rfl
      with_reducible apply run_y
      exact want_
      · intro K hK
        refine ev_ ?_
        refine vcCall_rd ((s_may_t l (i + 1) e _ (by omega) h3).got rfl) (by kernel_rfl) (by decide) rfl ?_
        refine ev_ ?_
        exact hK
      refine go_ ?_
      refine ev_ ?_
      exact ⟨_, [.cells (rdC l (i + 1 + 1) e)], .mk rfl (And.intro (And.intro rfl rfl) trivial), (by rw [ho]; exact ⟨rfl, rfl, rfl⟩), rfl, rfl⟩
    with_reducible apply run_y
    exact want_
    · intro K hK
      refine ev_ ?_
      refine vcCall_rd ((s_may_f l (i + 1) e _ (by omega) h3).got rfl) (by kernel_rfl) (by decide) rfl ?_
      refine ev_ ?_
      exact hK
    refine goto_ 8 ?_
    have hs := te1 l e hl (i + 1) (by omega)
    cases hx : exprE l (fuE l) (i + 1) 1 with
    | none =>
      have ho : smO (stmtE l (f + 1) i) = none := by rw [stmtE, if_neg h1, if_pos h2, if_neg h3, hx]; rfl
      rw [hx] at hs
      try with_reducible apply c_seq
      refine c_die 1 rfl rfl (fun h => by cases h) ?_
      simp only [List.take_succ_cons, List.take_zero]
      refine go_ ?_
      refine run_end ⟨fun h => (by cases h), ?_⟩
      conv => whnf
      refine And.intro (by kernel_rfl) (vcDie_rd (hs) (by kernel_rfl) (by decide) rfl fun a_ j_ ha_ => ?_)
      conv => whnf
      intro σ_ hσ_
      refine go_ ?_
      conv => whnf
      exact ⟨_, [.cells (rdC l j_ e)], rfl, And.intro (And.intro rfl rfl) trivial, (by rw [ho]; exact ⟨rfl, a_, j_, ha_, rfl, rfl⟩), rfl⟩
    | some xj =>
      obtain ⟨x, j⟩ := xj
      have q1 := (far l (fuE l)).e (i + 1) 1 x j (by omega) (by omega) hx
      rw [hx] at hs
      have hs2 := s_must l j e [⟨#[59]⟩] (by omega) (by simp)
      obtain ⟨xk, xo, xn, xs, xks⟩ := x
      refine go_ ?_
      with_reducible apply run_y
      exact want_
      · intro K hK
        refine ev_ ?_
        refine vcCall_rd (hs.got rfl) (by kernel_rfl) (by decide) rfl ?_
        refine ev_ ?_
        exact hK
      refine goto_ 9 ?_
      cases hm : mustE l [⟨#[59]⟩] j with
      | none =>
        have ho : smO (stmtE l (f + 1) i) = none := by rw [stmtE, if_neg h1, if_pos h2, if_neg h3, hx]; simp only; rw [hm]; rfl
        rw [hm] at hs2
        try with_reducible apply c_seq
        refine c_die 2 rfl rfl (fun h => by cases h) ?_
        simp only [List.take_succ_cons, List.take_zero]
        refine go_ ?_
        refine run_end ⟨fun h => (by cases h), ?_⟩
        conv => whnf
        refine And.intro (by kernel_rfl) (vcDie_rd (hs2) (by kernel_rfl) (by decide) rfl fun a_ j_ ha_ => ?_)
        conv => whnf
        intro σ_ hσ_
        refine go_ ?_
        conv => whnf
        exact ⟨_, [.cells (rdC l j_ e)], rfl, And.intro (And.intro rfl rfl) trivial, (by rw [ho]; exact ⟨rfl, a_, j_, ha_, rfl, rfl⟩), rfl⟩
      | some k =>
        have ho : smO (stmtE l (f + 1) i) = some (.agg (smC (.mk 7 ByteArray.empty [.mk xk xo xn xs xks] [] [])), k) := by rw [stmtE, if_neg h1, if_pos h2, if_neg h3, hx]; simp only; rw [hm]; rfl
        rw [hm] at hs2
        refine go_ ?_
        with_reducible apply run_y
        exact want_
        · intro K hK
          refine ev_ ?_
          refine vcCall_rd (hs2.got rfl) (by kernel_rfl) (by decide) rfl ?_
          refine ev_ ?_
          exact hK
        refine go_ ?_
        refine ev_ ?_
        exact ⟨_, [.cells (rdC l (k) e)], .mk rfl (And.intro (And.intro rfl rfl) trivial), (by rw [ho]; exact ⟨rfl, rfl, rfl⟩), rfl, rfl⟩
  with_reducible apply run_y
  exact want_
  · intro K hK
    refine ev_ ?_
    refine vcCall_rd ((s_may_f l i e _ (by omega) h2).got rfl) (by kernel_rfl) (by decide) rfl ?_
    refine ev_ ?_
    exact hK
  refine go_ ?_
  by_cases h3 : peekE l i = (⟨#[105, 102]⟩ : ByteArray)
  · have h0 := peek_lt h3 (by decide)
    with_reducible apply run_y
    exact want_
    · intro K hK
      refine ev_ ?_
      refine vcCall_rd ((s_may_t l i e _ (by omega) h3).got rfl) (by kernel_rfl) (by decide) rfl ?_
      refine ev_ ?_
      exact hK
    refine goto_ 12 ?_
    have hs := s_round l e hl (i + 1) (by omega)
    cases hx : roundE l (i + 1) with
    | none =>
      have ho : smO (stmtE l (f + 1) i) = none := by rw [stmtE, if_neg h1, if_neg h2, if_pos h3, hx]; rfl
      rw [hx] at hs
      try with_reducible apply c_seq
      refine c_die 1 rfl rfl (fun h => by cases h) ?_
      simp only [List.take_succ_cons, List.take_zero]
      refine go_ ?_
      refine run_end ⟨fun h => (by cases h), ?_⟩
      conv => whnf
      refine And.intro (by kernel_rfl) (vcDie_rd (hs) (by kernel_rfl) (by decide) rfl fun a_ j_ ha_ => ?_)
      conv => whnf
      intro σ_ hσ_
      refine go_ ?_
      conv => whnf
      exact ⟨_, [.cells (rdC l j_ e)], rfl, And.intro (And.intro rfl rfl) trivial, (by rw [ho]; exact ⟨rfl, a_, j_, ha_, rfl, rfl⟩), rfl⟩
    | some xj =>
      obtain ⟨x, j⟩ := xj
      have q1 := round_far (by omega) hx
      rw [hx] at hs
      have hs2 := hB j q1.2 (by omega)
      cases hb : bodyE l f j with
      | none =>
        have ho : smO (stmtE l (f + 1) i) = none := by rw [stmtE, if_neg h1, if_neg h2, if_pos h3, hx]; simp only; rw [hb]; rfl
        rw [hb] at hs2
        try with_reducible apply c_seq
        refine c_die 3 rfl rfl (fun h => by cases h) ?_
        simp only [List.take_succ_cons, List.take_zero]
        refine go_ ?_
        with_reducible apply run_y
        exact want_
        · intro K hK
          refine ev_ ?_
          refine vcCall_rd (hs.got rfl) (by kernel_rfl) (by decide) rfl ?_
          refine ev_ ?_
          exact hK
        refine go_ ?_
        refine run_end ⟨fun h => (by cases h), ?_⟩
        conv => whnf
        refine And.intro (by kernel_rfl) (vcDie_rd (hs2) (by kernel_rfl) (by decide) rfl fun a_ j_ ha_ => ?_)
        conv => whnf
        intro σ_ hσ_
        refine go_ ?_
        conv => whnf
        exact ⟨_, [.cells (rdC l j_ e)], rfl, And.intro (And.intro rfl rfl) trivial, (by rw [ho]; exact ⟨rfl, a_, j_, ha_, rfl, rfl⟩), rfl⟩
      | some tk =>
        obtain ⟨t, k⟩ := tk
        have q2 := (farS l f).b j t k q1.2 hb
        rw [hb] at hs2
        refine go_ ?_
        with_reducible apply run_y
        exact want_
        · intro K hK
          refine ev_ ?_
          refine vcCall_rd (hs.got rfl) (by kernel_rfl) (by decide) rfl ?_
          refine ev_ ?_
          exact hK
        refine go_ ?_
        with_reducible apply run_y
        exact want_
        · intro K hK
          refine ev_ ?_
          refine vcCall_rd (hs2.got rfl) (by kernel_rfl) (by decide) rfl ?_
          refine ev_ ?_
          exact hK
        refine go_ ?_
        by_cases h5 : peekE l k = (⟨#[101, 108, 115, 101]⟩ : ByteArray)
        · have h05 := peek_lt h5 (by decide)
          with_reducible apply run_y
          exact want_
          · intro K hK
            refine ev_ ?_
            refine vcCall_rd ((s_may_t l k e _ (by omega) h5).got rfl) (by kernel_rfl) (by decide) rfl ?_
            refine ev_ ?_
            exact hK
          refine goto_ 14 ?_
          have hs3 := hB (k + 1) (by omega) (by omega)
          cases hc : bodyE l f (k + 1) with
          | none =>
            have ho : smO (stmtE l (f + 1) i) = none := by rw [stmtE, if_neg h1, if_neg h2, if_pos h3, hx]; simp only; rw [hb]; simp only; rw [if_pos h5, hc]; rfl
            rw [hc] at hs3
            try with_reducible apply c_seq
            refine c_die 1 rfl rfl (fun h => by cases h) ?_
            simp only [List.take_succ_cons, List.take_zero]
            refine go_ ?_
            refine run_end ⟨fun h => (by cases h), ?_⟩
            conv => whnf
            refine And.intro (by kernel_rfl) (vcDie_rd (hs3) (by kernel_rfl) (by decide) rfl fun a_ j_ ha_ => ?_)
            conv => whnf
            intro σ_ hσ_
            refine go_ ?_
            conv => whnf
            exact ⟨_, [.cells (rdC l j_ e)], rfl, And.intro (And.intro rfl rfl) trivial, (by rw [ho]; exact ⟨rfl, a_, j_, ha_, rfl, rfl⟩), rfl⟩
          | some bn =>
            obtain ⟨b, n⟩ := bn
            have ho : smO (stmtE l (f + 1) i) = some (.agg (smC (.mk 4 ByteArray.empty [x] t b)), n) := by rw [stmtE, if_neg h1, if_neg h2, if_pos h3, hx]; simp only; rw [hb]; simp only; rw [if_pos h5, hc]; rfl
            rw [hc] at hs3
            refine go_ ?_
            with_reducible apply run_y
            exact want_
            · intro K hK
              refine ev_ ?_
              refine vcCall_rd (hs3.got rfl) (by kernel_rfl) (by decide) rfl ?_
              refine ev_ ?_
              exact hK
            refine go_ ?_
            refine ev_ ?_
            exact ⟨_, [.cells (rdC l (n) e)], .mk rfl (And.intro (And.intro rfl rfl) trivial), (by rw [ho]; exact ⟨rfl, rfl, rfl⟩), rfl, rfl⟩
        · have ho : smO (stmtE l (f + 1) i) = some (.agg (smC (.mk 4 ByteArray.empty [x] t [])), k) := by rw [stmtE, if_neg h1, if_neg h2, if_pos h3, hx]; simp only; rw [hb]; simp only; rw [if_neg h5]; rfl
          with_reducible apply run_y
          exact want_
          · intro K hK
            refine ev_ ?_
            refine vcCall_rd ((s_may_f l k e _ (by omega) h5).got rfl) (by kernel_rfl) (by decide) rfl ?_
            refine ev_ ?_
            exact hK
          refine go_ ?_
          refine ev_ ?_
          exact ⟨_, [.cells (rdC l (k) e)], .mk rfl (And.intro (And.intro rfl rfl) trivial), (by rw [ho]; exact ⟨rfl, rfl, rfl⟩), rfl, rfl⟩
  with_reducible apply run_y
  exact want_
  · intro K hK
    refine ev_ ?_
    refine vcCall_rd ((s_may_f l i e _ (by omega) h3).got rfl) (by kernel_rfl) (by decide) rfl ?_
    refine ev_ ?_
    exact hK
  refine go_ ?_
  by_cases h4 : peekE l i = (⟨#[119, 104, 105, 108, 101]⟩ : ByteArray)
  · have h0 := peek_lt h4 (by decide)
    with_reducible apply run_y
    exact want_
    · intro K hK
      refine ev_ ?_
      refine vcCall_rd ((s_may_t l i e _ (by omega) h4).got rfl) (by kernel_rfl) (by decide) rfl ?_
      refine ev_ ?_
      exact hK
    refine goto_ 17 ?_
    have hs := s_round l e hl (i + 1) (by omega)
    cases hx : roundE l (i + 1) with
    | none =>
      have ho : smO (stmtE l (f + 1) i) = none := by rw [stmtE, if_neg h1, if_neg h2, if_neg h3, if_pos h4, hx]; rfl
      rw [hx] at hs
      try with_reducible apply c_seq
      refine c_die 1 rfl rfl (fun h => by cases h) ?_
      simp only [List.take_succ_cons, List.take_zero]
      refine go_ ?_
      refine run_end ⟨fun h => (by cases h), ?_⟩
      conv => whnf
      refine And.intro (by kernel_rfl) (vcDie_rd (hs) (by kernel_rfl) (by decide) rfl fun a_ j_ ha_ => ?_)
      conv => whnf
      intro σ_ hσ_
      refine go_ ?_
      conv => whnf
      exact ⟨_, [.cells (rdC l j_ e)], rfl, And.intro (And.intro rfl rfl) trivial, (by rw [ho]; exact ⟨rfl, a_, j_, ha_, rfl, rfl⟩), rfl⟩
    | some xj =>
      obtain ⟨x, j⟩ := xj
      have q1 := round_far (by omega) hx
      rw [hx] at hs
      have hs2 := hB j q1.2 (by omega)
      cases hb : bodyE l f j with
      | none =>
        have ho : smO (stmtE l (f + 1) i) = none := by rw [stmtE, if_neg h1, if_neg h2, if_neg h3, if_pos h4, hx]; simp only; rw [hb]; rfl
        rw [hb] at hs2
        try with_reducible apply c_seq
        refine c_die 3 rfl rfl (fun h => by cases h) ?_
        simp only [List.take_succ_cons, List.take_zero]
        refine go_ ?_
        with_reducible apply run_y
        exact want_
        · intro K hK
          refine ev_ ?_
          refine vcCall_rd (hs.got rfl) (by kernel_rfl) (by decide) rfl ?_
          refine ev_ ?_
          exact hK
        refine go_ ?_
        refine run_end ⟨fun h => (by cases h), ?_⟩
        conv => whnf
        refine And.intro (by kernel_rfl) (vcDie_rd (hs2) (by kernel_rfl) (by decide) rfl fun a_ j_ ha_ => ?_)
        conv => whnf
        intro σ_ hσ_
        refine go_ ?_
        conv => whnf
        exact ⟨_, [.cells (rdC l j_ e)], rfl, And.intro (And.intro rfl rfl) trivial, (by rw [ho]; exact ⟨rfl, a_, j_, ha_, rfl, rfl⟩), rfl⟩
      | some tk =>
        obtain ⟨t, k⟩ := tk
        have ho : smO (stmtE l (f + 1) i) = some (.agg (smC (.mk 5 ByteArray.empty [x] t [])), k) := by rw [stmtE, if_neg h1, if_neg h2, if_neg h3, if_pos h4, hx]; simp only; rw [hb]; rfl
        rw [hb] at hs2
        refine go_ ?_
        with_reducible apply run_y
        exact want_
        · intro K hK
          refine ev_ ?_
          refine vcCall_rd (hs.got rfl) (by kernel_rfl) (by decide) rfl ?_
          refine ev_ ?_
          exact hK
        refine go_ ?_
        with_reducible apply run_y
        exact want_
        · intro K hK
          refine ev_ ?_
          refine vcCall_rd (hs2.got rfl) (by kernel_rfl) (by decide) rfl ?_
          refine ev_ ?_
          exact hK
        refine go_ ?_
        refine ev_ ?_
        exact ⟨_, [.cells (rdC l (k) e)], .mk rfl (And.intro (And.intro rfl rfl) trivial), (by rw [ho]; exact ⟨rfl, rfl, rfl⟩), rfl, rfl⟩
  with_reducible apply run_y
  exact want_
  · intro K hK
    refine ev_ ?_
    refine vcCall_rd ((s_may_f l i e _ (by omega) h4).got rfl) (by kernel_rfl) (by decide) rfl ?_
    refine ev_ ?_
    exact hK
  refine goto_ 18 ?_
  have hs := s_named l e hl i hi
  have ho : smO (stmtE l (f + 1) i) = smO (namedE l i) := by rw [stmtE, if_neg h1, if_neg h2, if_neg h3, if_neg h4]
  cases hx : namedE l i with
  | none =>
    rw [hx] at ho hs
    try with_reducible apply c_seq
    refine c_die 1 rfl rfl (fun h => by cases h) ?_
    simp only [List.take_succ_cons, List.take_zero]
    refine go_ ?_
    refine run_end ⟨fun h => (by cases h), ?_⟩
    conv => whnf
    refine And.intro (by kernel_rfl) (vcDie_rd (hs) (by kernel_rfl) (by decide) rfl fun a_ j_ ha_ => ?_)
    conv => whnf
    intro σ_ hσ_
    refine go_ ?_
    conv => whnf
    exact ⟨_, [.cells (rdC l j_ e)], rfl, And.intro (And.intro rfl rfl) trivial, (by rw [ho]; exact ⟨rfl, a_, j_, ha_, rfl, rfl⟩), rfl⟩
  | some xj =>
    obtain ⟨x, j⟩ := xj
    rw [hx] at ho hs
    obtain ⟨zk, zs, ze, zt, zf⟩ := x
    refine go_ ?_
    with_reducible apply run_y
    exact want_
    · intro K hK
      refine ev_ ?_
      refine vcCall_rd (hs.got rfl) (by kernel_rfl) (by decide) rfl ?_
      refine ev_ ?_
      exact hK
    refine go_ ?_
    refine ev_ ?_
    exact ⟨_, [.cells (rdC l (j) e)], .mk rfl (And.intro (And.intro rfl rfl) trivial), (by rw [ho]; exact ⟨rfl, rfl, rfl⟩), rfl, rfl⟩
theorem all_S (l : List Tk) (e : Int) (hl : l.length ≤ 100000) : ∀ f, (∀ f', f' ≤ f → TS l e f') ∧ (∀ f', f' ≤ f → TB l e f') ∧ ∀ f', f' ≤ f → TSS l e f'
  | 0 => by
    refine ⟨fun f' h => ?_, fun f' h => ?_, fun f' h => ?_⟩
    · obtain rfl : f' = 0 := by omega
      intro i _ h4; omega
    · obtain rfl : f' = 0 := by omega
      intro i _ h4; omega
    · obtain rfl : f' = 0 := by omega
      intro i _ h4; omega
  | f + 1 => by
    obtain ⟨h1, h2, h3⟩ := all_S l e hl f
    have a1 : TS l e (f + 1) := fun i q1 q2 => s_pstmt l e hl f (h2 f (Nat.le_refl _)) i q1 q2
    have a2 : TB l e (f + 1) := fun i q1 q2 => s_body l e hl f (h3 f (Nat.le_refl _)) i q1 q2
    have a3 : TSS l e (f + 1) := fun i q1 q2 => s_pstmts l e hl f h1 i q1 q2
    refine ⟨fun f' h => ?_, fun f' h => ?_, fun f' h => ?_⟩
    · by_cases e1 : f' = f + 1
      · rw [e1]; exact a1
      · exact h1 f' (by omega)
    · by_cases e1 : f' = f + 1
      · rw [e1]; exact a2
      · exact h2 f' (by omega)
    · by_cases e1 : f' = f + 1
      · rw [e1]; exact a3
      · exact h3 f' (by omega)
end Go.Proofs.YtddggjmfplohkaaDoor

/- The reader: functions, walked. -/
namespace Go.Proofs.YtddggjmfplohkaaDoor
open Go Go.RowKit
/-- Enough for any statement. -/
def fuS (l : List Tk) : Nat := 3 * l.length + 10
theorem tss1 (l : List Tk) (e : Int) (hl : l.length ≤ 100000) (i : Nat) (hi : i ≤ l.length) : SpecRd 69 [] l i e (smsO [] (stmtsE l (fuS l) i)) := (all_S l e hl (fuS l)).2.2 (fuS l) (Nat.le_refl _) i hi (by unfold fuS; omega)
theorem nmsT_far {l : List Tk} : ∀ (f j : Nat) (r : List ByteArray) (n : Nat), j ≤ l.length → nmsT l f j = some (r, n) → j ≤ n ∧ n ≤ l.length ∧ r.length ≤ n - j
  | 0, _, _, _, _, h => by simp [nmsT] at h
  | f + 1, j, r, n, hj, h => by
    rw [nmsT] at h
    split at h
    · cases ht : takeE l (j + 1) 1 with
      | none => rw [ht] at h; cases h
      | some tk =>
        obtain ⟨t, k⟩ := tk
        obtain ⟨h0, rfl, -, -⟩ := take_some ht
        rw [ht] at h
        simp only at h
        cases h1 : nmsT l f (j + 1 + 1) with
        | none => rw [h1] at h; cases h
        | some rn =>
          obtain ⟨r2, n2⟩ := rn
          rw [h1] at h
          cases h
          have := nmsT_far f _ _ _ (by omega) h1
          simp only [List.length_cons]
          omega
    · cases h
      exact ⟨Nat.le_refl _, hj, by simp⟩
theorem nms_far {l : List Tk} {i n : Nat} {r : List ByteArray} (h : nmsE l i = some (r, n)) : i < n ∧ n ≤ l.length ∧ r.length ≤ n - i ∧ r ≠ [] := by
  unfold nmsE at h
  cases ht : takeE l i 1 with
  | none => rw [ht] at h; cases h
  | some tk =>
    obtain ⟨t, k⟩ := tk
    obtain ⟨h0, rfl, -, -⟩ := take_some ht
    rw [ht] at h
    simp only at h
    cases h1 : nmsT l (l.length + 1) (i + 1) with
    | none => rw [h1] at h; cases h
    | some rn =>
      obtain ⟨r2, n2⟩ := rn
      rw [h1] at h
      cases h
      have := nmsT_far _ _ _ _ (by omega) h1
      simp only [List.length_cons]
      exact ⟨by omega, by omega, by omega, by simp⟩
/-- Rows of names, each behind 'var', each ended. -/
def locsE (l : List Tk) : Nat → Nat → Option (List ByteArray × Nat)
  | 0, _ => none
  | f + 1, j =>
    if peekE l j = (⟨#[118, 97, 114]⟩ : ByteArray) then (match nmsE l (j + 1) with
      | none => none
      | some (r, k) => match mustE l [⟨#[59]⟩] k with
        | none => none
        | some n => match locsE l f n with
          | none => none
          | some (r2, q) => some (r ++ r2, q))
    else some ([], j)
/-- A function's head: its name, its parameters, whether it gives back a word; up to its brace. -/
def headE (l : List Tk) (i : Nat) : Option ((ByteArray × List ByteArray × Bool) × Nat) :=
  match mustE l [⟨#[102, 117, 110, 99]⟩] i with
  | none => none
  | some i1 => match takeE l i1 1 with
    | none => none
    | some (t, i2) => match mustE l [⟨#[40]⟩] i2 with
      | none => none
      | some i3 => match (if kindE l i3 = 1 then nmsE l i3 else some ([], i3)) with
        | none => none
        | some (ps, i4) => match mustE l [⟨#[41]⟩] i4 with
          | none => none
          | some i5 => match mustE l [⟨#[123]⟩] (mayE l i5 ⟨#[119, 111, 114, 100]⟩) with
            | none => none
            | some i6 => some ((t.text, ps, decide (peekE l i5 = (⟨#[119, 111, 114, 100]⟩ : ByteArray))), i6)
def funE (l : List Tk) (i : Nat) : Option (Fu × Nat) :=
  match headE l i with
  | none => none
  | some ((nm, ps, w), j) => match locsE l (l.length + 1) j with
    | none => none
    | some (ls, k) => match stmtsE l (fuS l) k with
      | none => none
      | some (b, n) => some (⟨nm, ps, ls, w, b⟩, n)
def fuO : Option (Fu × Nat) → Option (PV × Nat)
  | some (x, j) => some (.agg (fuC x), j)
  | none => none
def fu0 : List PV := [.v (.string ⟨#[]⟩), .sl .full [], .sl .full [], .v (.bool false), .sl .full []]end Go.Proofs.YtddggjmfplohkaaDoor
