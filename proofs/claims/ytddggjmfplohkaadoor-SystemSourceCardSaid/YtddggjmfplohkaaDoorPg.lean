import Derived.Test.YtddggjmfplohkaaDoorPe
/- The reader: expressions and arguments, walked. -/
namespace Go.Proofs.YtddggjmfplohkaaDoor
open Go Go.RowKit
/-- An expression's cells; of whatever kind the row of its kids is. -/
def exK (κ : K) : Ex → List PV
  | .mk k o n s ks => [.v (.int .i64 k), .v (.int .i64 o), .v (.int .u32 n.toNat), .v (.string s), .sl κ (exsC ks)]
def ex0 : List PV := [.v (.int .i64 0), .v (.int .i64 0), .v (.int .u32 0), .v (.string ⟨#[]⟩), .sl .full []]
set_option maxHeartbeats 8000000 in
set_option maxRecDepth 100000 in
theorem s_pexpr (l : List Tk) (e : Int) (hl : l.length ≤ 100000) (f : Nat) (hE : ∀ f', f' ≤ f → TE l e f') (hA : TA l e f) (i : Nat) (least : Int) (h1 : 1 ≤ least) (h2 : least ≤ 100) (hi : i ≤ l.length) (hf : 4 * (l.length - i) + 4 ≤ f + 1) : SpecRd 94 [.v (.int .i64 least)] l i e (exO (exprE l (f + 1) i least)) := by
  unfold SpecRd
  have hs := hA i hi (by omega)
  cases hx : atomE l f i with
  | none =>
    have ho : exO (exprE l (f + 1) i least) = none := by rw [exprE, hx]; rfl
    rw [hx] at hs
    refine spec_of_bodyR CX_mixed CU_gpk Tryd.func94 rfl 35 1 (fun c hc => by rw [List.mem_singleton.1 hc]; rfl) rfl rfl ?_
    refine goto_ 1 ?_
    try with_reducible apply c_seq
    refine c_die 1 rfl rfl (fun h => by cases h) ?_
    simp only [List.take_succ_cons, List.take_zero]
    refine go_ ?_
    refine run_end ⟨fun h => (by cases h), ?_⟩
    conv => whnf
    refine And.intro (by kernel_rfl) (vcDie_rd (hs) (by kernel_rfl) (by decide) rfl fun a_ j_ ha_ => ?_)
    conv => whnf
    intro σ_ hσ_
    refine go_ ?_
    conv => whnf
    exact ⟨_, [.cells (rdC l j_ e)], rfl, And.intro (And.intro rfl rfl) trivial, (by rw [ho]; exact ⟨rfl, a_, j_, ha_, rfl, rfl⟩), rfl⟩
  | some xj =>
    obtain ⟨x, j⟩ := xj
    have ho : exO (exprE l (f + 1) i least) = exO (loopE l f x j least) := by rw [exprE, hx]
    have hfar := (far l f).a i x j hi hx
    rw [hx] at hs
    rw [ho]
    obtain ⟨xk, xo, xn, xs, xks⟩ := x
    refine spec_of_bodyR CX_mixed CU_gpk Tryd.func94 rfl 35 1 (fun c hc => by rw [List.mem_singleton.1 hc]; rfl) rfl rfl ?_
    refine go_ ?_
    with_reducible apply run_y
    exact want_
    · intro K hK
      refine ev_ ?_
      refine vcCall_rd (hs.got rfl) (by kernel_rfl) (by decide) rfl ?_
      refine ev_ ?_
      exact hK
    refine go_ ?_
    clear hs
    refine c_loop (fun k q m h => ∃ (x : Ex) (κ : K) (f2 j2 : Nat), f2 ≤ f ∧ j2 ≤ l.length ∧ 4 * (l.length - j2) + 4 ≤ f2 ∧ exO (loopE l f2 x j2 least) = exO (loopE l f (.mk xk xo xn xs xks) j least) ∧ k = f2 ∧
        q = [.ptr 1 0, .v (.int .i64 least), .top, .top, .ptr 2 0, .ptr 3 0] ++ List.replicate 29 .top ∧ m = 4 ∧ h = [(1, .cells (rdC l j2 e)), (2, .cells ex0), (3, .cells (exK κ x))])
      ⟨_, _, _, _, ?_, ?_, ⟨.mk xk xo xn xs xks, .any, f, j, Nat.le_refl _, hfar.2, by omega, rfl, rfl, rfl, rfl, rfl⟩⟩ ?_
    · rfl
    · skip
      exact sub_
    rintro k q m h hlen ⟨x, κ, f2, j2, hf2, hj2, hm2, hout, rfl, rfl, rfl, rfl⟩
    clear hlen
    cases k with
    | zero => exfalso; omega
    | succ f2 =>
      rw [loopE] at hout
      have hsg := s_psign (peekE l j2)
      have hsh := sign_hi (peekE l j2)
      have hin : ¬ (signE (peekE l j2)).2.2 < 1 → j2 < l.length := fun h => sign_in h
      obtain ⟨yk, yo, yn, ys, yks⟩ := x
      refine go_ ?_
      with_reducible apply run_y
      exact want_
      · intro K hK
        refine ev_ ?_
        refine vcCall_rd ((s_peek l j2 e).got rfl) (by kernel_rfl) (by decide) rfl ?_
        refine ev_ ?_
        exact hK
      refine go_ ?_
      with_reducible apply run_y
      exact want_
      · intro K hK
        refine ev_ ?_
        refine vcCall_plain (hsg) (by kernel_rfl) ?_
        refine ev_ ?_
        exact hK
      refine go_ ?_
      clear hsg
      generalize signE (peekE l j2) = sg at *
      obtain ⟨sk, so, st⟩ := sg
      simp only at hsh hin hout ⊢
      by_cases hlt : st < least
      · have g1 : decide (st < least) = true := decide_eq_true hlt
        rw [if_pos hlt] at hout
        have hout2 : exO (loopE l f (.mk xk xo xn xs xks) j least) = some (.agg (exC (.mk yk yo yn ys yks)), j2) := by rw [← hout]; rfl
        refine go_ ?_
        refine ev_ ?_
        exact ⟨_, [.cells (rdC l (j2) e)], .mk rfl (And.intro (And.intro rfl rfl) trivial), (by rw [hout2]; exact ⟨rfl, rfl, rfl⟩), rfl, rfl⟩
      · have g1 : decide (st < least) = false := decide_eq_false hlt
        rw [if_neg hlt] at hout
        have hjl := hin (by omega)
        have hw2 : IntKind.i64.wrap ((j2 : Int) + 1) = ((j2 + 1 : Nat) : Int) := by rw [wrap64 (by omega) (by omega)]; omega
        have hw3 : IntKind.i64.wrap (st + 1) = st + 1 := wrap64 (by omega) (by omega)
        have hs := hE f2 (by omega) (j2 + 1) (st + 1) (by omega) (by omega) (by omega) (by omega)
        refine goto_ 6 ?_
        rw [hw2]
        cases hx : exprE l f2 (j2 + 1) (st + 1) with
        | none =>
          rw [hx] at hout hs
          rw [← hw3] at hs
          try with_reducible apply c_seq
          refine c_die 4 rfl rfl (fun h => ⟨by kernel_rfl, by kernel_rfl⟩) ?_
          simp only [List.take_succ_cons, List.take_zero]
          refine go_ ?_
          refine run_end ⟨fun h => (by kernel_rfl), ?_⟩
          conv => whnf
          refine And.intro (by kernel_rfl) (vcDie_rd (hs) (by kernel_rfl) (by decide) rfl fun a_ j_ ha_ => ?_)
          conv => whnf
          intro σ_ hσ_
          refine go_ ?_
          conv => whnf
          exact ⟨_, [.cells (rdC l j_ e)], rfl, And.intro (And.intro rfl rfl) trivial, (by rw [← hout]; exact ⟨rfl, a_, j_, ha_, rfl, rfl⟩), rfl⟩
        | some yj =>
          obtain ⟨y, k⟩ := yj
          rw [hx] at hout hs
          simp only at hout
          have hfar := (far l f2).e (j2 + 1) (st + 1) y k (by omega) (by omega) hx
          obtain ⟨zk, zo, zn, zs, zks⟩ := y
          rw [← hw3] at hs
          refine go_ ?_
          with_reducible apply run_y
          exact want_
          · intro K hK
            refine ev_ ?_
            refine vcCall_rd (hs.got rfl) (by kernel_rfl) (by decide) rfl ?_
            refine ev_ ?_
            exact hK
          refine go_ ?_
          refine c_round ⟨_, _, _, _, ?_, ?_, ?_, ⟨.mk sk so 0 ByteArray.empty [.mk yk yo yn ys yks, .mk zk zo zn zs zks], .full, f2, k, by omega, hfar.2, by omega, hout, rfl, rfl, rfl, rfl⟩⟩
          · omega
          · rfl
          · skip
            exact sub_
end Go.Proofs.YtddggjmfplohkaaDoor

/- The reader: arguments, walked; all expressions. -/
namespace Go.Proofs.YtddggjmfplohkaaDoor
open Go Go.RowKit
theorem exsC_app (l l' : List Ex) : exsC l ++ exsC l' = exsC (l ++ l') := by rw [exsC_eq, exsC_eq, exsC_eq, List.map_append]
theorem exsC_wide' (l : List Ex) (i : Nat) (h : i < (exsC l).length) : ((exsC l).getD i []).length = 5 := by
  rw [exsC_eq] at h ⊢
  have h : i < l.length := by simpa using h
  rw [show (l.map exC).getD i [] = exC l[i] by simp [List.getD, h]]
  generalize l[i] = e
  obtain ⟨_, _, _, _, _⟩ := e
  rfl
theorem appOk_ex {zs sz by_ : Nat} {l l' : List Ex} (hz : zs = 5) (hs : sz = 5) (hb : by_ ≤ 100) (h : l.length + l'.length ≤ 1000000000) : AppOk zs sz by_ (exsC l) (exsC l') := by
  subst hz hs
  refine ⟨rfl, by omega, exsC_wide' l, exsC_wide' l', by rw [exsC_len, exsC_len]; simp only [maxLen]; omega, ?_⟩
  rw [exsC_len, exsC_len]
  have : (l.length + l'.length) * by_ ≤ (l.length + l'.length) * 100 := Nat.mul_le_mul_left _ hb
  omega
def argO (acc : List Ex) (l : List Tk) : Option (List Ex × Nat) → Option (PV × Nat)
  | some (r, k) => match mustE l [⟨#[41]⟩] k with
    | none => none
    | some n => some (.sl .any (exsC (acc ++ r)), n)
  | none => none
set_option maxHeartbeats 8000000 in
set_option maxRecDepth 100000 in
theorem s_args (l : List Tk) (e : Int) (hl : l.length ≤ 100000) (f : Nat) (hE : ∀ f', f' ≤ f → TE l e f') (i : Nat) (hi : i ≤ l.length) (hf : 4 * (l.length - i) + 5 ≤ f + 1) : SpecRd 101 [] l i e (exsO (argsE l (f + 1) i)) := by
  unfold SpecRd
  by_cases hc : peekE l i = (⟨#[41]⟩ : ByteArray)
  · have ho : exsO (argsE l (f + 1) i) = some (.sl .any (exsC []), i + 1) := by rw [argsE, if_pos hc]; rfl
    refine spec_of_bodyR CX_mixed CU_gpk Tryd.func101 rfl 20 1 (fun c hc => by rw [List.mem_singleton.1 hc]; rfl) rfl rfl ?_
    refine go_ ?_
    with_reducible apply run_y
    exact want_
    · intro K hK
      refine ev_ ?_
      refine vcCall_rd ((s_may_t l i e _ (by omega) hc).got rfl) (by kernel_rfl) (by decide) rfl ?_
      refine ev_ ?_
      exact hK
    refine go_ ?_
    refine ev_ ?_
    exact ⟨_, [.cells (rdC l (i + 1) e)], .mk rfl (And.intro (And.intro rfl rfl) trivial), (by rw [ho]; exact ⟨rfl, rfl, rfl⟩), rfl, rfl⟩
  have hs := hE f (Nat.le_refl _) i 1 (by omega) (by omega) hi (by omega)
  cases hx : exprE l f i 1 with
  | none =>
    have ho : exsO (argsE l (f + 1) i) = none := by rw [argsE, if_neg hc, hx]; rfl
    rw [hx] at hs
    refine spec_of_bodyR CX_mixed CU_gpk Tryd.func101 rfl 20 1 (fun c hc => by rw [List.mem_singleton.1 hc]; rfl) rfl rfl ?_
    refine go_ ?_
    with_reducible apply run_y
    exact want_
    · intro K hK
      refine ev_ ?_
      refine vcCall_rd ((s_may_f l i e _ (by omega) hc).got rfl) (by kernel_rfl) (by decide) rfl ?_
      refine ev_ ?_
      exact hK
    refine goto_ 3 ?_
    try with_reducible apply c_seq
    refine c_die 1 rfl rfl (fun h => by cases h) ?_
    simp only [List.take_succ_cons, List.take_zero]
    refine go_ ?_
    refine run_end ⟨fun h => (by cases h), ?_⟩
    conv => whnf
    refine And.intro (by kernel_rfl) (vcDie_rd (hs) (by kernel_rfl) (by decide) rfl fun a_ j_ ha_ => ?_)
    conv => whnf
    intro σ_ hσ_
    refine go_ ?_
    conv => whnf
    exact ⟨_, [.cells (rdC l j_ e)], rfl, And.intro (And.intro rfl rfl) trivial, (by rw [ho]; exact ⟨rfl, a_, j_, ha_, rfl, rfl⟩), rfl⟩
  | some xj =>
    obtain ⟨x, j⟩ := xj
    have ho : exsO (argsE l (f + 1) i) = argO [x] l (argTE l f j) := by
      rw [argsE, if_neg hc, hx]
      simp only
      cases argTE l f j with
      | none => rfl
      | some rk =>
        obtain ⟨r, k⟩ := rk
        simp only [argO]
        cases mustE l [⟨#[41]⟩] k with
        | none => rfl
        | some n => rfl
    have hfar := (far l f).e i 1 x j (by omega) hi hx
    rw [hx] at hs
    rw [ho]
    clear ho hx
    obtain ⟨xk, xo, xn, xs, xks⟩ := x
    refine spec_of_bodyR CX_mixed CU_gpk Tryd.func101 rfl 20 1 (fun c hc => by rw [List.mem_singleton.1 hc]; rfl) rfl rfl ?_
    refine go_ ?_
    with_reducible apply run_y
    exact want_
    · intro K hK
      refine ev_ ?_
      refine vcCall_rd ((s_may_f l i e _ (by omega) hc).got rfl) (by kernel_rfl) (by decide) rfl ?_
      refine ev_ ?_
      exact hK
    refine go_ ?_
    with_reducible apply run_y
    exact want_
    · intro K hK
      refine ev_ ?_
      refine vcCall_rd (hs.got rfl) (by kernel_rfl) (by decide) rfl ?_
      refine ev_ ?_
      exact hK
    refine go_ ?_
    clear hs
    refine c_loop (fun k q m h => ∃ (acc : List Ex) (f2 j2 : Nat), acc.length ≤ j2 ∧ f2 ≤ f ∧ j2 ≤ l.length ∧ 4 * (l.length - j2) + 5 ≤ f2 ∧ argO acc l (argTE l f2 j2) = argO [.mk xk xo xn xs xks] l (argTE l f j) ∧ k = f2 ∧
        ((q = [.ptr 1 0, .top, .top, .sl .full (exsC acc)] ++ List.replicate 16 .top ∧ m = 2 ∧ h = [(1, .cells (rdC l j2 e))]) ∨
         (q = [.ptr 1 0, .top, .top, .sl (.own 2) (exsC acc)] ++ List.replicate 16 .top ∧ m = 3 ∧ h = [(1, .cells (rdC l j2 e)), (2, .row (exsC acc).length 102)])))
      ⟨_, _, _, _, ?_, ?_, ⟨[.mk xk xo xn xs xks], f, j, by simp; omega, Nat.le_refl _, hfar.2, by omega, rfl, rfl, .inl ⟨rfl, rfl, rfl⟩⟩⟩ ?_
    · rfl
    · skip
      exact sub_
    rintro k q m h hlen ⟨acc, f2, j2, hac, hf2, hj2, hm2, hout, rfl, hq⟩
    clear hlen
    cases k with
    | zero => exfalso; omega
    | succ f2 =>
      rw [argTE] at hout
      by_cases hp : peekE l j2 = (⟨#[44]⟩ : ByteArray)
      · have hjl := peek_lt hp (by decide)
        rw [if_pos hp] at hout
        have hs := hE f2 (by omega) (j2 + 1) 1 (by omega) (by omega) (by omega) (by omega)
        cases hx : exprE l f2 (j2 + 1) 1 with
        | none =>
          rw [hx] at hout hs
          rcases hq with ⟨rfl, rfl, rfl⟩ | ⟨rfl, rfl, rfl⟩
          · skip
            refine go_ ?_
            with_reducible apply run_y
            exact want_
            · intro K hK
              refine ev_ ?_
              refine vcCall_rd ((s_may_t l j2 e _ (by omega) hp).got rfl) (by kernel_rfl) (by decide) rfl ?_
              refine ev_ ?_
              exact hK
            refine goto_ 5 ?_
            try with_reducible apply c_seq
            refine c_die 2 rfl rfl (fun h => by cases h) ?_
            simp only [List.take_succ_cons, List.take_zero]
            refine go_ ?_
            refine run_end ⟨fun h => (by cases h), ?_⟩
            conv => whnf
            refine And.intro (by kernel_rfl) (vcDie_rd (hs) (by kernel_rfl) (by decide) rfl fun a_ j_ ha_ => ?_)
            conv => whnf
            intro σ_ hσ_
            refine go_ ?_
            conv => whnf
            exact ⟨_, [.cells (rdC l j_ e)], rfl, And.intro (And.intro rfl rfl) trivial, (by rw [← hout]; exact ⟨rfl, a_, j_, ha_, rfl, rfl⟩), rfl⟩
          · skip
            refine go_ ?_
            with_reducible apply run_y
            exact want_
            · intro K hK
              refine ev_ ?_
              refine vcCall_rd ((s_may_t l j2 e _ (by omega) hp).got rfl) (by kernel_rfl) (by decide) rfl ?_
              refine ev_ ?_
              exact hK
            refine goto_ 5 ?_
            try with_reducible apply c_seq
            refine c_die 2 rfl rfl (fun h => by cases h) ?_
            simp only [List.take_succ_cons, List.take_zero]
            refine go_ ?_
            refine run_end ⟨fun h => (by cases h), ?_⟩
            conv => whnf
            refine And.intro (by kernel_rfl) (vcDie_rd (hs) (by kernel_rfl) (by decide) rfl fun a_ j_ ha_ => ?_)
            conv => whnf
            intro σ_ hσ_
            refine go_ ?_
            conv => whnf
            exact ⟨_, [.cells (rdC l j_ e)], rfl, And.intro (And.intro rfl rfl) trivial, (by rw [← hout]; exact ⟨rfl, a_, j_, ha_, rfl, rfl⟩), rfl⟩
        | some yj =>
          obtain ⟨y, k⟩ := yj
          rw [hx] at hout hs
          have hfar := (far l f2).e (j2 + 1) 1 y k (by omega) (by omega) hx
          have hout2 : argO (acc ++ [y]) l (argTE l f2 k) = argO [.mk xk xo xn xs xks] l (argTE l f j) := by
            rw [← hout]
            simp only
            cases argTE l f2 k with
            | none => rfl
            | some rn =>
              obtain ⟨r, n⟩ := rn
              simp [argO]
          clear hout hx
          obtain ⟨zk, zo, zn, zs, zks⟩ := y
          rcases hq with ⟨rfl, rfl, rfl⟩ | ⟨rfl, rfl, rfl⟩
          · skip
            refine go_ ?_
            with_reducible apply run_y
            exact want_
            · intro K hK
              refine ev_ ?_
              refine vcCall_rd ((s_may_t l j2 e _ (by omega) hp).got rfl) (by kernel_rfl) (by decide) rfl ?_
              refine ev_ ?_
              exact hK
            refine go_ ?_
            with_reducible apply run_y
            exact want_
            · intro K hK
              refine ev_ ?_
              refine vcCall_rd (hs.got rfl) (by kernel_rfl) (by decide) rfl ?_
              refine ev_ ?_
              exact hK
            refine go_ ?_
            with_reducible apply run_y
            exact want_
            · intro K hK
              refine ev_ ?_
              refine ⟨exsC (acc ++ [Ex.mk zk zo zn zs zks]), exsC_app acc [Ex.mk zk zo zn zs zks], appOk_ex (l := acc) (l' := [Ex.mk zk zo zn zs zks]) rfl rfl (by decide) (by simp; omega), ?_⟩
              conv => whnf
              refine Or.inl ?_
              refine ev_ ?_
              exact hK
            refine go_ ?_
            refine c_round ⟨_, _, _, _, ?_, ?_, ?_, ⟨acc ++ [.mk zk zo zn zs zks], f2, k, by simp; omega, by omega, hfar.2, by omega, hout2, rfl, .inr ⟨rfl, rfl, rfl⟩⟩⟩
            · omega
            · rfl
            · skip
              exact sub_
          · skip
            refine go_ ?_
            with_reducible apply run_y
            exact want_
            · intro K hK
              refine ev_ ?_
              refine vcCall_rd ((s_may_t l j2 e _ (by omega) hp).got rfl) (by kernel_rfl) (by decide) rfl ?_
              refine ev_ ?_
              exact hK
            refine go_ ?_
            with_reducible apply run_y
            exact want_
            · intro K hK
              refine ev_ ?_
              refine vcCall_rd (hs.got rfl) (by kernel_rfl) (by decide) rfl ?_
              refine ev_ ?_
              exact hK
            refine go_ ?_
            with_reducible apply run_y
            exact want_
            · intro K hK
              refine ev_ ?_
              refine ⟨exsC (acc ++ [Ex.mk zk zo zn zs zks]), exsC_app acc [Ex.mk zk zo zn zs zks], appOk_ex (l := acc) (l' := [Ex.mk zk zo zn zs zks]) rfl rfl (by decide) (by simp; omega), ?_⟩
              refine ev_ ?_
              exact hK
            refine go_ ?_
            refine c_round ⟨_, _, _, _, ?_, ?_, ?_, ⟨acc ++ [.mk zk zo zn zs zks], f2, k, by simp; omega, by omega, hfar.2, by omega, hout2, rfl, .inr ⟨rfl, rfl, rfl⟩⟩⟩
            · omega
            · rfl
            · skip
              exact sub_
      · rw [if_neg hp] at hout
        have hs2 := s_must l j2 e [⟨#[41]⟩] (by omega) (by simp)
        cases hm : mustE l [⟨#[41]⟩] j2 with
        | none =>
          have hout2 : argO [.mk xk xo xn xs xks] l (argTE l f j) = none := by rw [← hout]; simp only [argO]; rw [hm]
          rw [hm] at hs2
          rcases hq with ⟨rfl, rfl, rfl⟩ | ⟨rfl, rfl, rfl⟩
          · skip
            refine go_ ?_
            with_reducible apply run_y
            exact want_
            · intro K hK
              refine ev_ ?_
              refine vcCall_rd ((s_may_f l j2 e _ (by omega) hp).got rfl) (by kernel_rfl) (by decide) rfl ?_
              refine ev_ ?_
              exact hK
            refine goto_ 6 ?_
            try with_reducible apply c_seq
            refine c_die 2 rfl rfl (fun h => by cases h) ?_
            simp only [List.take_succ_cons, List.take_zero]
            refine go_ ?_
            refine run_end ⟨fun h => (by cases h), ?_⟩
            conv => whnf
            refine And.intro (by kernel_rfl) (vcDie_rd (hs2) (by kernel_rfl) (by decide) rfl fun a_ j_ ha_ => ?_)
            conv => whnf
            intro σ_ hσ_
            refine go_ ?_
            conv => whnf
            exact ⟨_, [.cells (rdC l j_ e)], rfl, And.intro (And.intro rfl rfl) trivial, (by rw [hout2]; exact ⟨rfl, a_, j_, ha_, rfl, rfl⟩), rfl⟩
          · skip
            refine go_ ?_
            with_reducible apply run_y
            exact want_
            · intro K hK
              refine ev_ ?_
              refine vcCall_rd ((s_may_f l j2 e _ (by omega) hp).got rfl) (by kernel_rfl) (by decide) rfl ?_
              refine ev_ ?_
              exact hK
            refine goto_ 6 ?_
            try with_reducible apply c_seq
            refine c_die 2 rfl rfl (fun h => by cases h) ?_
            simp only [List.take_succ_cons, List.take_zero]
            refine go_ ?_
            refine run_end ⟨fun h => (by cases h), ?_⟩
            conv => whnf
            refine And.intro (by kernel_rfl) (vcDie_rd (hs2) (by kernel_rfl) (by decide) rfl fun a_ j_ ha_ => ?_)
            conv => whnf
            intro σ_ hσ_
            refine go_ ?_
            conv => whnf
            exact ⟨_, [.cells (rdC l j_ e)], rfl, And.intro (And.intro rfl rfl) trivial, (by rw [hout2]; exact ⟨rfl, a_, j_, ha_, rfl, rfl⟩), rfl⟩
        | some n =>
          have hout2 : argO [.mk xk xo xn xs xks] l (argTE l f j) = some (.sl .any (exsC acc), n) := by rw [← hout]; simp only [argO]; rw [hm]; simp
          rw [hm] at hs2
          rcases hq with ⟨rfl, rfl, rfl⟩ | ⟨rfl, rfl, rfl⟩
          · skip
            refine go_ ?_
            with_reducible apply run_y
            exact want_
            · intro K hK
              refine ev_ ?_
              refine vcCall_rd ((s_may_f l j2 e _ (by omega) hp).got rfl) (by kernel_rfl) (by decide) rfl ?_
              refine ev_ ?_
              exact hK
            refine go_ ?_
            with_reducible apply run_y
            exact want_
            · intro K hK
              refine ev_ ?_
              refine vcCall_rd (hs2.got rfl) (by kernel_rfl) (by decide) rfl ?_
              refine ev_ ?_
              exact hK
            refine go_ ?_
            refine ev_ ?_
            exact ⟨_, [.cells (rdC l (n) e)], .mk rfl (And.intro (And.intro rfl rfl) trivial), (by rw [hout2]; exact ⟨rfl, rfl, rfl⟩), rfl, rfl⟩
          · skip
            refine go_ ?_
            with_reducible apply run_y
            exact want_
            · intro K hK
              refine ev_ ?_
              refine vcCall_rd ((s_may_f l j2 e _ (by omega) hp).got rfl) (by kernel_rfl) (by decide) rfl ?_
              refine ev_ ?_
              exact hK
            refine go_ ?_
            with_reducible apply run_y
            exact want_
            · intro K hK
              refine ev_ ?_
              refine vcCall_rd (hs2.got rfl) (by kernel_rfl) (by decide) rfl ?_
              refine ev_ ?_
              exact hK
            refine go_ ?_
            refine ev_ ?_
            exact ⟨_, [.cells (rdC l (n) e)], .mk rfl (And.intro (And.intro rfl rfl) trivial), (by rw [hout2]; exact ⟨rfl, rfl, rfl⟩), rfl, rfl⟩
/-- All of it, whatever the fuel. -/
theorem all_E (l : List Tk) (e : Int) (hl : l.length ≤ 100000) : ∀ f, (∀ f', f' ≤ f → TE l e f') ∧ (∀ f', f' ≤ f → TA l e f') ∧ ∀ f', f' ≤ f → TG l e f'
  | 0 => by
    refine ⟨fun f' h => ?_, fun f' h => ?_, fun f' h => ?_⟩
    · obtain rfl : f' = 0 := by omega
      intro i least _ _ _ h4; omega
    · obtain rfl : f' = 0 := by omega
      intro i _ h4; omega
    · obtain rfl : f' = 0 := by omega
      intro i _ h4; omega
  | f + 1 => by
    obtain ⟨h1, h2, h3⟩ := all_E l e hl f
    have a1 : TE l e (f + 1) := fun i least q1 q2 q3 q4 => s_pexpr l e hl f h1 (h2 f (Nat.le_refl _)) i least q1 q2 q3 q4
    have a2 : TA l e (f + 1) := fun i q1 q2 => s_atom l e hl f (h1 f (Nat.le_refl _)) (h2 f (Nat.le_refl _)) (h3 f (Nat.le_refl _)) i q1 q2
    have a3 : TG l e (f + 1) := fun i q1 q2 => s_args l e hl f h1 i q1 q2
    refine ⟨fun f' h => ?_, fun f' h => ?_, fun f' h => ?_⟩
    · by_cases e1 : f' = f + 1
      · rw [e1]; exact a1
      · exact h1 f' (by omega)
    · by_cases e1 : f' = f + 1
      · rw [e1]; exact a2
      · exact h2 f' (by omega)
    · by_cases e1 : f' = f + 1
      · rw [e1]; exact a3
      · exact h3 f' (by omega)
theorem te_ok (l : List Tk) (e : Int) (hl : l.length ≤ 100000) (f : Nat) : TE l e f := (all_E l e hl f).1 f (Nat.le_refl _)
theorem tg_ok (l : List Tk) (e : Int) (hl : l.length ≤ 100000) (f : Nat) : TG l e f := (all_E l e hl f).2.2 f (Nat.le_refl _)
end Go.Proofs.YtddggjmfplohkaaDoor
