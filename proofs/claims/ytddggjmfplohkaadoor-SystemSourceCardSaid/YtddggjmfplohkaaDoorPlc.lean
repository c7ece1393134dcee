import Derived.Test.YtddggjmfplohkaaDoorPl
/- The reader: programs, walked (states of the declarations). -/
namespace Go.Proofs.YtddggjmfplohkaaDoor
open Go Go.RowKit
set_option maxHeartbeats 16000000 in
set_option maxRecDepth 100000 in
theorem prog_3 (l : List Tk) (e : Int) (hl : l.length ≤ 100000) (f2 j2 : Nat) (v : List ByteArray) (a : List Ar) (hv : v.length ≤ j2) (ha : a.length ≤ j2) (hj2 : j2 ≤ l.length) (hf2 : l.length < f2 + 1 + j2) (hout1 : ∀ r, decsE l (f2 + 1) j2 = r → decsE l (l.length + 1) 0 = (match r with | none => none | some ((v', a'), q) => some ((v ++ v', a ++ a'), q))) (c r : Code) (hc : c = cAt (Tryd.f22.body.getD .skip) [true, true, false, false, false]) (hr : r = cAt (Tryd.f22.body.getD .skip) [true, true, true]) : vcCL (Ctx.mk Tryd.prog globU 7 LaidU) 65 1 c (roundL 65 1 (f2 + 1) (progI l e) (blockL 0 (thenL (Ctx.mk Tryd.prog globU 7 LaidU) 65 1 r (vcEndRL (Ctx.mk Tryd.prog globU 7 LaidU) Tryd.f22 65 1 (RdR l e (pgO (progE l))))))) ([.ptr 1 0, .top, .ptr 2 0, .ptr 3 0] ++ List.replicate 61 .top) 6 [(1, .cells (rdC l j2 e)), (2, .cells pg0), (3, .cells [.sl (.own 4) (ssP v), .sl (.own 5) (arsP a), .sl .full []]), (4, .row (ssP v).length 9), (5, .row (arsP a).length 50)] := by
  dsimp only [cAt, Tryd.f22, Option.getD] at hc hr
  subst hc hr
  have hno : decsE l (l.length + 1) 0 = none → pgO (progE l) = none := fun h => by unfold progE; rw [h]; rfl
  by_cases hp : peekE l j2 = (⟨#[118, 97, 114]⟩ : ByteArray)
  · have hjl := peek_lt hp (by decide)
    have hs := s_names l (j2 + 1) e hl
    refine go_ ?_
    with_reducible apply run_y
    exact want_
    · intro K hK
      refine ev_ ?_
      refine vcCall_rd ((s_may_t l j2 e _ (by omega) hp).got rfl) (by kernel_rfl) (by decide) rfl ?_
      refine ev_ ?_
      exact hK
    refine goto_ 3 ?_
    cases hx : nmsE l (j2 + 1) with
    | none =>
      have ho := hno (hout1 none (by rw [decsE, if_pos hp, hx]))
      rw [hx] at hs
      try with_reducible apply c_seq
      refine c_die 3 rfl rfl (fun h => ⟨by kernel_rfl, by kernel_rfl⟩) ?_
      simp only [List.take_succ_cons, List.take_zero]
      refine go_ ?_
      refine run_end ⟨fun h => (by kernel_rfl), ?_⟩
      conv => whnf
      refine And.intro (by kernel_rfl) (vcDie_rd (hs) (by kernel_rfl) (by decide) rfl fun a_ j_ ha_ => ?_)
      conv => whnf
      intro σ_ hσ_
      refine go_ ?_
      conv => whnf
      exact ⟨_, [.cells (rdC l j_ e)], rfl, And.intro (And.intro rfl rfl) trivial, (by rw [ho]; exact ⟨rfl, a_, j_, ha_, rfl, rfl⟩), rfl⟩
    | some rk =>
      obtain ⟨r, k⟩ := rk
      have qn := nms_far hx
      rw [hx] at hs
      have hs2 := s_must l k e [⟨#[59]⟩] (by omega) (by simp)
      refine go_ ?_
      with_reducible apply run_y
      exact want_
      · intro K hK
        refine ev_ ?_
        refine vcCall_rd (hs.got rfl) (by kernel_rfl) (by decide) rfl ?_
        refine ev_ ?_
        exact hK
      refine go_ ?_
      with_reducible apply run_y
      exact want_
      · intro K hK
        refine ev_ ?_
        refine ⟨ssP (v ++ r), ssP_app v r, appOk_ss (l := v) (l' := r) rfl rfl rfl (by first | omega | (simp <;> omega)), ?_⟩
        refine ev_ ?_
        exact hK
      refine goto_ 10 ?_
      cases hm : mustE l [⟨#[59]⟩] k with
      | none =>
        have ho := hno (hout1 none (by rw [decsE, if_pos hp, hx]; simp only; rw [hm]))
        rw [hm] at hs2
        try with_reducible apply c_seq
        refine c_die 2 rfl rfl (fun h => by cases h) ?_
        simp only [List.take_succ_cons, List.take_zero]
        refine go_ ?_
        refine run_end ⟨fun h => (by cases h), ?_⟩
        conv => whnf
        refine And.intro (by kernel_rfl) (vcDie_rd (hs2) (by kernel_rfl) (by decide) rfl fun a_ j_ ha_ => ?_)
        conv => whnf
        intro σ_ hσ_
        refine go_ ?_
        conv => whnf
        exact ⟨_, [.cells (rdC l j_ e)], rfl, And.intro (And.intro rfl rfl) trivial, (by rw [ho]; exact ⟨rfl, a_, j_, ha_, rfl, rfl⟩), rfl⟩
      | some n =>
        have qm := must_far hm (by simp; decide) qn.2.1
        simp only [List.length_cons, List.length_nil] at qm
        rw [hm] at hs2
        have hout2 : ∀ r', decsE l f2 n = r' → decsE l (l.length + 1) 0 = (match r' with
            | none => none
            | some ((v', a'), q) => some (((v ++ r) ++ v', a ++ a'), q)) := fun r' h => by
          have h9 := hout1 (match (generalizing := false) r' with
            | none => none
            | some ((v', a'), q) => some ((r ++ v', a'), q)) (by rw [decsE, if_pos hp, hx]; simp only; rw [hm]; simp only; rw [h]; try (cases r' <;> rfl))
          rw [h9]
          cases r' with
          | none => rfl
          | some rn => simp
        clear hout1 hx hno
        refine go_ ?_
        with_reducible apply run_y
        exact want_
        · intro K hK
          refine ev_ ?_
          refine vcCall_rd (hs2.got rfl) (by kernel_rfl) (by decide) rfl ?_
          refine ev_ ?_
          exact hK
        refine go_ ?_
        refine c_round ⟨_, _, _, _, ?_, ?_, ?_, ⟨v ++ r, a, f2, n, by first | omega | (simp <;> omega), by first | omega | (simp <;> omega), qm.2, by omega, hout2, rfl, .inr (.inr (.inr (.inl ⟨rfl, rfl, rfl⟩)))⟩⟩
        · omega
        · rfl
        · skip
          exact sub_
  by_cases hp2 : peekE l j2 = (⟨#[97, 114, 114, 97, 121]⟩ : ByteArray)
  · have hjl := peek_lt hp2 (by decide)
    have hs := s_take l (j2 + 1) e 1 (by decide) (by omega)
    refine go_ ?_
    with_reducible apply run_y
    exact want_
    · intro K hK
      refine ev_ ?_
      refine vcCall_rd ((s_may_f l j2 e _ (by omega) hp).got rfl) (by kernel_rfl) (by decide) rfl ?_
      refine ev_ ?_
      exact hK
    refine go_ ?_
    with_reducible apply run_y
    exact want_
    · intro K hK
      refine ev_ ?_
      refine vcCall_rd ((s_may_t l j2 e _ (by omega) hp2).got rfl) (by kernel_rfl) (by decide) rfl ?_
      refine ev_ ?_
      exact hK
    refine goto_ 5 ?_
    cases hx : takeE l (j2 + 1) 1 with
    | none =>
      have ho := hno (hout1 none (by rw [decsE, if_neg hp, if_pos hp2, hx]))
      rw [hx] at hs
      try with_reducible apply c_seq
      refine c_die 1 rfl rfl (fun h => by cases h) ?_
      simp only [List.take_succ_cons, List.take_zero]
      refine go_ ?_
      refine run_end ⟨fun h => (by cases h), ?_⟩
      conv => whnf
      refine And.intro (by kernel_rfl) (vcDie_rd (hs) (by kernel_rfl) (by decide) rfl fun a_ j_ ha_ => ?_)
      conv => whnf
      intro σ_ hσ_
      refine go_ ?_
      conv => whnf
      exact ⟨_, [.cells (rdC l j_ e)], rfl, And.intro (And.intro rfl rfl) trivial, (by rw [ho]; exact ⟨rfl, a_, j_, ha_, rfl, rfl⟩), rfl⟩
    | some tk =>
      obtain ⟨t, k⟩ := tk
      obtain ⟨h0, rfl, -, -⟩ := take_some hx
      rw [hx] at hs
      have hs2 := s_must l (j2 + 1 + 1) e [⟨#[91]⟩] (by omega) (by simp)
      obtain ⟨tk, tt, tn, ta⟩ := t
      refine go_ ?_
      with_reducible apply run_y
      exact want_
      · intro K hK
        refine ev_ ?_
        refine vcCall_rd (hs.got rfl) (by kernel_rfl) (by decide) rfl ?_
        refine ev_ ?_
        exact hK
      refine goto_ 6 ?_
      cases hm : mustE l [⟨#[91]⟩] (j2 + 1 + 1) with
      | none =>
        have ho := hno (hout1 none (by rw [decsE, if_neg hp, if_pos hp2, hx]; simp only; rw [hm]))
        rw [hm] at hs2
        try with_reducible apply c_seq
        refine c_die 2 rfl rfl (fun h => by cases h) ?_
        simp only [List.take_succ_cons, List.take_zero]
        refine go_ ?_
        refine run_end ⟨fun h => (by cases h), ?_⟩
        conv => whnf
        refine And.intro (by kernel_rfl) (vcDie_rd (hs2) (by kernel_rfl) (by decide) rfl fun a_ j_ ha_ => ?_)
        conv => whnf
        intro σ_ hσ_
        refine go_ ?_
        conv => whnf
        exact ⟨_, [.cells (rdC l j_ e)], rfl, And.intro (And.intro rfl rfl) trivial, (by rw [ho]; exact ⟨rfl, a_, j_, ha_, rfl, rfl⟩), rfl⟩
      | some k2 =>
        have q2 := must_far hm (by simp; decide) (by omega)
        rw [hm] at hs2
        have hs3 := s_take l k2 e 2 (by decide) (by omega)
        refine go_ ?_
        with_reducible apply run_y
        exact want_
        · intro K hK
          refine ev_ ?_
          refine vcCall_rd (hs2.got rfl) (by kernel_rfl) (by decide) rfl ?_
          refine ev_ ?_
          exact hK
        refine goto_ 7 ?_
        cases hu : takeE l k2 2 with
        | none =>
          have ho := hno (hout1 none (by rw [decsE, if_neg hp, if_pos hp2, hx]; simp only; rw [hm]; simp only; rw [hu]))
          rw [hu] at hs3
          try with_reducible apply c_seq
          refine c_die 1 rfl rfl (fun h => by cases h) ?_
          simp only [List.take_succ_cons, List.take_zero]
          refine go_ ?_
          refine run_end ⟨fun h => (by cases h), ?_⟩
          conv => whnf
          refine And.intro (by kernel_rfl) (vcDie_rd (hs3) (by kernel_rfl) (by decide) rfl fun a_ j_ ha_ => ?_)
          conv => whnf
          intro σ_ hσ_
          refine go_ ?_
          conv => whnf
          exact ⟨_, [.cells (rdC l j_ e)], rfl, And.intro (And.intro rfl rfl) trivial, (by rw [ho]; exact ⟨rfl, a_, j_, ha_, rfl, rfl⟩), rfl⟩
        | some uk =>
          obtain ⟨u, k3⟩ := uk
          obtain ⟨h03, rfl, -, -⟩ := take_some hu
          rw [hu] at hs3
          obtain ⟨uk, ut, un, ua⟩ := u
          have hun : un.toNat < 4294967296 := un.toNat_lt
          have hwn : IntKind.i64.wrap ((un.toNat : Int)) = (un.toNat : Int) := wrap64 (by omega) (by omega)
          have hs4 := s_must l (k2 + 1) e [⟨#[93]⟩] (by omega) (by simp)
          refine go_ ?_
          with_reducible apply run_y
          exact want_
          · intro K hK
            refine ev_ ?_
            refine vcCall_rd (hs3.got rfl) (by kernel_rfl) (by decide) rfl ?_
            refine ev_ ?_
            exact hK
          refine go_ ?_
          rw [hwn]
          refine go_ ?_
          with_reducible apply run_y
          exact want_
          · intro K hK
            refine ev_ ?_
            refine ⟨arsP (a ++ [Ar.mk tt (un.toNat : Int)]), arsP_app a [Ar.mk tt (un.toNat : Int)], appOk_of (es := arsP a) (es' := arsP [Ar.mk tt (un.toNat : Int)]) rfl rfl (by decide) (by decide) (arsP_w _) (arsP_w _) (by rw [arsP_len, arsP_len]; first | omega | (simp <;> omega)), ?_⟩
            refine ev_ ?_
            exact hK
          refine goto_ 9 ?_
          cases hb : mustE l [⟨#[93]⟩] (k2 + 1) with
          | none =>
            have ho := hno (hout1 none (by rw [decsE, if_neg hp, if_pos hp2, hx]; simp only; rw [hm]; simp only; rw [hu]; simp only; rw [hb]))
            rw [hb] at hs4
            try with_reducible apply c_seq
            refine c_die 2 rfl rfl (fun h => by cases h) ?_
            simp only [List.take_succ_cons, List.take_zero]
            refine go_ ?_
            refine run_end ⟨fun h => (by cases h), ?_⟩
            conv => whnf
            refine And.intro (by kernel_rfl) (vcDie_rd (hs4) (by kernel_rfl) (by decide) rfl fun a_ j_ ha_ => ?_)
            conv => whnf
            intro σ_ hσ_
            refine go_ ?_
            conv => whnf
            exact ⟨_, [.cells (rdC l j_ e)], rfl, And.intro (And.intro rfl rfl) trivial, (by rw [ho]; exact ⟨rfl, a_, j_, ha_, rfl, rfl⟩), rfl⟩
          | some k4 =>
            have q4 := must_far hb (by simp; decide) (by omega)
            rw [hb] at hs4
            have hs5 := s_must l k4 e [⟨#[59]⟩] (by omega) (by simp)
            refine go_ ?_
            with_reducible apply run_y
            exact want_
            · intro K hK
              refine ev_ ?_
              refine vcCall_rd (hs4.got rfl) (by kernel_rfl) (by decide) rfl ?_
              refine ev_ ?_
              exact hK
            refine goto_ 10 ?_
            cases hc : mustE l [⟨#[59]⟩] k4 with
            | none =>
              have ho := hno (hout1 none (by rw [decsE, if_neg hp, if_pos hp2, hx]; simp only; rw [hm]; simp only; rw [hu]; simp only; rw [hb]; simp only; rw [hc]))
              rw [hc] at hs5
              try with_reducible apply c_seq
              refine c_die 2 rfl rfl (fun h => by cases h) ?_
              simp only [List.take_succ_cons, List.take_zero]
              refine go_ ?_
              refine run_end ⟨fun h => (by cases h), ?_⟩
              conv => whnf
              refine And.intro (by kernel_rfl) (vcDie_rd (hs5) (by kernel_rfl) (by decide) rfl fun a_ j_ ha_ => ?_)
              conv => whnf
              intro σ_ hσ_
              refine go_ ?_
              conv => whnf
              exact ⟨_, [.cells (rdC l j_ e)], rfl, And.intro (And.intro rfl rfl) trivial, (by rw [ho]; exact ⟨rfl, a_, j_, ha_, rfl, rfl⟩), rfl⟩
            | some n =>
              have qm := must_far hc (by simp; decide) q4.2
              simp only [List.length_cons, List.length_nil] at q2 q4 qm
              rw [hc] at hs5
              have hout2 : ∀ r', decsE l f2 n = r' → decsE l (l.length + 1) 0 = (match r' with
                  | none => none
                  | some ((v', a'), q) => some ((v ++ v', (a ++ [Ar.mk tt (un.toNat : Int)]) ++ a'), q)) := fun r' h => by
                have h9 := hout1 (match (generalizing := false) r' with
                  | none => none
                  | some ((v', a'), q) => some ((v', Ar.mk tt (un.toNat : Int) :: a'), q)) (by rw [decsE, if_neg hp, if_pos hp2, hx]; simp only; rw [hm]; simp only; rw [hu]; simp only; rw [hb]; simp only; rw [hc]; simp only; rw [h]; try (cases r' <;> rfl))
                rw [h9]
                cases r' with
                | none => rfl
                | some rn => simp
              clear hout1 hx hno
              refine go_ ?_
              with_reducible apply run_y
              exact want_
              · intro K hK
                refine ev_ ?_
                refine vcCall_rd (hs5.got rfl) (by kernel_rfl) (by decide) rfl ?_
                refine ev_ ?_
                exact hK
              refine go_ ?_
              refine c_round ⟨_, _, _, _, ?_, ?_, ?_, ⟨v, a ++ [Ar.mk tt (un.toNat : Int)], f2, n, by first | omega | (simp <;> omega), by first | omega | (simp <;> omega), qm.2, by omega, hout2, rfl, .inr (.inr (.inr (.inl ⟨rfl, rfl, rfl⟩)))⟩⟩
              · omega
              · rfl
              · skip
                exact sub_
  have hd : decsE l (l.length + 1) 0 = some ((v, a), j2) := by
    have := hout1 (some (([], []), j2)) (by rw [decsE, if_neg hp, if_neg hp2])
    simpa using this
  clear hout1 hno
  have hs := s_pfun l e hl j2 hj2
  refine go_ ?_
  with_reducible apply run_y
  exact want_
  · intro K hK
    refine ev_ ?_
    refine vcCall_rd ((s_may_f l j2 e _ (by omega) hp).got rfl) (by kernel_rfl) (by decide) rfl ?_
    refine ev_ ?_
    exact hK
  refine go_ ?_
  with_reducible apply run_y
  exact want_
  · intro K hK
    refine ev_ ?_
    refine vcCall_rd ((s_may_f l j2 e _ (by omega) hp2).got rfl) (by kernel_rfl) (by decide) rfl ?_
    refine ev_ ?_
    exact hK
  refine goto_ 11 ?_
  cases hx : funE l j2 with
  | none =>
    have ho : pgO (progE l) = none := by unfold progE; rw [hd]; simp only; rw [hx]; rfl
    rw [hx] at hs
    try with_reducible apply c_seq
    refine c_die 3 rfl rfl (fun h => ⟨by kernel_rfl, by kernel_rfl⟩) ?_
    simp only [List.take_succ_cons, List.take_zero]
    refine go_ ?_
    refine run_end ⟨fun h => (by kernel_rfl), ?_⟩
    conv => whnf
    refine And.intro (by kernel_rfl) (vcDie_rd (hs) (by kernel_rfl) (by decide) rfl fun a_ j_ ha_ => ?_)
    conv => whnf
    intro σ_ hσ_
    refine go_ ?_
    conv => whnf
    exact ⟨_, [.cells (rdC l j_ e)], rfl, And.intro (And.intro rfl rfl) trivial, (by rw [ho]; exact ⟨rfl, a_, j_, ha_, rfl, rfl⟩), rfl⟩
  | some xk =>
    obtain ⟨x, k⟩ := xk
    have qx := fun_far hj2 hx
    rw [hx] at hs
    have hpo : pgO (progE l) = (match funsE l (l.length + 1) k with
        | none => none
        | some (r, n) => some (.agg (pgC ⟨v, a, [x] ++ r⟩), n)) := by
      unfold progE
      rw [hd]
      simp only
      rw [hx]
      simp only
      cases funsE l (l.length + 1) k with
      | none => rfl
      | some rn => rfl
    rw [hpo]
    clear hd hx
    obtain ⟨xn, xp, xl, xw, xb⟩ := x
    refine go_ ?_
    with_reducible apply run_y
    exact want_
    · intro K hK
      refine ev_ ?_
      refine vcCall_rd (hs.got rfl) (by kernel_rfl) (by decide) rfl ?_
      refine ev_ ?_
      exact hK
    refine go_ ?_
    with_reducible apply run_y
    exact want_
    · intro K hK
      refine ev_ ?_
      refine ⟨fusP ([] ++ [Fu.mk xn xp xl xw xb]), fusP_app [] [Fu.mk xn xp xl xw xb], appOk_of (es := fusP []) (es' := fusP [Fu.mk xn xp xl xw xb]) rfl rfl (by decide) (by decide) (fusP_w _) (fusP_w _) (by rw [fusP_len, fusP_len]; first | omega | (simp <;> omega)), ?_⟩
      conv => whnf
      refine Or.inl ?_
      refine ev_ ?_
      exact hK
    refine go_ ?_
    refine c_loop (fun k2 q m h => ∃ (acc : List Fu) (f3 j3 : Nat), acc.length ≤ j3 ∧ j3 ≤ l.length ∧ l.length < f3 + j3 ∧ (match funsE l f3 j3 with
                | none => none
                | some (r, n) => some (PV.agg (pgC ⟨v, a, acc ++ r⟩), n)) = (match funsE l (l.length + 1) k with
                | none => none
                | some (r, n) => some (PV.agg (pgC ⟨v, a, [Fu.mk xn xp xl xw xb] ++ r⟩), n)) ∧ k2 = f3 ∧ q = [.ptr 1 0, .top, .ptr 2 0, .ptr 3 0] ++ List.replicate 61 .top ∧ m = 7 ∧ h = [(1, .cells (rdC l j3 e)), (2, .cells pg0), (3, .cells [.sl (.own 4) (ssP v), .sl (.own 5) (arsP a), .sl (.own 6) (fusP acc)]), (4, .row (ssP v).length 9), (5, .row (arsP a).length 50), (6, .row (fusP acc).length 54)])
      ⟨_, _, _, _, ?_, ?_, ⟨[] ++ [Fu.mk xn xp xl xw xb], l.length + 1, k, by first | omega | (simp <;> omega), qx.2, by omega, rfl, rfl, rfl, rfl, rfl⟩⟩ ?_
    · rfl
    · skip
      exact sub_
    rintro k2 q m h hlen ⟨acc, f3, j3, hac, hj3, hf3, hout, rfl, rfl, rfl, rfl⟩
    clear hlen
    cases k2 with
    | zero => exfalso; omega
    | succ f3 =>
      rw [funsE] at hout
      by_cases hlt : j3 < l.length
      · have g0 : decide ((j3 : Int) < ((l.map tkC).length : Int)) = true := decide_eq_true (by rw [tkC_len]; omega)
        rw [if_pos hlt] at hout
        have hs := s_pfun l e hl j3 hj3
        cases hx : funE l j3 with
        | none =>
          rw [hx] at hout hs
          refine goto_ 13 ?_
          try with_reducible apply c_seq
          refine c_die 3 rfl rfl (fun h => ⟨by kernel_rfl, by kernel_rfl⟩) ?_
          simp only [List.take_succ_cons, List.take_zero]
          refine go_ ?_
          refine run_end ⟨fun h => (by kernel_rfl), ?_⟩
          conv => whnf
          refine And.intro (by kernel_rfl) (vcDie_rd (hs) (by kernel_rfl) (by decide) rfl fun a_ j_ ha_ => ?_)
          conv => whnf
          intro σ_ hσ_
          refine go_ ?_
          conv => whnf
          exact ⟨_, [.cells (rdC l j_ e)], rfl, And.intro (And.intro rfl rfl) trivial, (by rw [← hout]; exact ⟨rfl, a_, j_, ha_, rfl, rfl⟩), rfl⟩
        | some yk =>
          obtain ⟨y, n⟩ := yk
          have qy := fun_far hj3 hx
          rw [hx] at hout hs
          have hout2 : (match funsE l f3 n with
                | none => none
                | some (r, n) => some (PV.agg (pgC ⟨v, a, (acc ++ [y]) ++ r⟩), n)) = (match funsE l (l.length + 1) k with
                | none => none
                | some (r, n) => some (PV.agg (pgC ⟨v, a, [Fu.mk xn xp xl xw xb] ++ r⟩), n)) := by
            rw [← hout]
            simp only
            cases funsE l f3 n with
            | none => rfl
            | some rn => simp
          clear hout hx
          obtain ⟨yn, yp, yl, yw, yb⟩ := y
          refine go_ ?_
          with_reducible apply run_y
          exact want_
          · intro K hK
            refine ev_ ?_
            refine vcCall_rd (hs.got rfl) (by kernel_rfl) (by decide) rfl ?_
            refine ev_ ?_
            exact hK
          refine go_ ?_
          with_reducible apply run_y
          exact want_
          · intro K hK
            refine ev_ ?_
            refine ⟨fusP (acc ++ [Fu.mk yn yp yl yw yb]), fusP_app acc [Fu.mk yn yp yl yw yb], appOk_of (es := fusP acc) (es' := fusP [Fu.mk yn yp yl yw yb]) rfl rfl (by decide) (by decide) (fusP_w _) (fusP_w _) (by rw [fusP_len, fusP_len]; first | omega | (simp <;> omega)), ?_⟩
            refine ev_ ?_
            exact hK
          refine go_ ?_
          refine c_round ⟨_, _, _, _, ?_, ?_, ?_, ⟨acc ++ [Fu.mk yn yp yl yw yb], f3, n, by first | omega | (simp <;> omega), qy.2, by omega, hout2, rfl, rfl, rfl, rfl⟩⟩
          · omega
          · rfl
          · skip
            exact sub_
      · have g0 : decide ((j3 : Int) < ((l.map tkC).length : Int)) = false := decide_eq_false (by rw [tkC_len]; omega)
        rw [if_neg hlt] at hout
        have hout2 : (match funsE l (l.length + 1) k with
                | none => none
                | some (r, n) => some (PV.agg (pgC ⟨v, a, [Fu.mk xn xp xl xw xb] ++ r⟩), n)) = some (PV.agg (pgC ⟨v, a, acc⟩), j3) := by rw [← hout]; simp
        refine go_ ?_
        refine ev_ ?_
        exact ⟨_, [.cells (rdC l (j3) e)], .mk rfl (And.intro (And.intro rfl rfl) trivial), (by rw [hout2]; exact ⟨rfl, rfl, rfl⟩), rfl, rfl⟩
set_option maxHeartbeats 16000000 in
set_option maxRecDepth 100000 in
theorem prog_4 (l : List Tk) (e : Int) (hl : l.length ≤ 100000) (f2 j2 : Nat) (v : List ByteArray) (a : List Ar) (hv : v.length ≤ j2) (ha : a.length ≤ j2) (hj2 : j2 ≤ l.length) (hf2 : l.length < f2 + 1 + j2) (hout1 : ∀ r, decsE l (f2 + 1) j2 = r → decsE l (l.length + 1) 0 = (match r with | none => none | some ((v', a'), q) => some ((v ++ v', a ++ a'), q))) (c r : Code) (hc : c = cAt (Tryd.f22.body.getD .skip) [true, true, false, false, false]) (hr : r = cAt (Tryd.f22.body.getD .skip) [true, true, true]) : vcCL (Ctx.mk Tryd.prog globU 7 LaidU) 65 1 c (roundL 65 1 (f2 + 1) (progI l e) (blockL 0 (thenL (Ctx.mk Tryd.prog globU 7 LaidU) 65 1 r (vcEndRL (Ctx.mk Tryd.prog globU 7 LaidU) Tryd.f22 65 1 (RdR l e (pgO (progE l))))))) ([.ptr 1 0, .top, .ptr 2 0, .ptr 3 0] ++ List.replicate 61 .top) 6 [(1, .cells (rdC l j2 e)), (2, .cells pg0), (3, .cells [.sl (.own 5) (ssP v), .sl (.own 4) (arsP a), .sl .full []]), (4, .row (arsP a).length 50), (5, .row (ssP v).length 9)] := by
  dsimp only [cAt, Tryd.f22, Option.getD] at hc hr
  subst hc hr
  have hno : decsE l (l.length + 1) 0 = none → pgO (progE l) = none := fun h => by unfold progE; rw [h]; rfl
  by_cases hp : peekE l j2 = (⟨#[118, 97, 114]⟩ : ByteArray)
  · have hjl := peek_lt hp (by decide)
    have hs := s_names l (j2 + 1) e hl
    refine go_ ?_
    with_reducible apply run_y
    exact want_
    · intro K hK
      refine ev_ ?_
      refine vcCall_rd ((s_may_t l j2 e _ (by omega) hp).got rfl) (by kernel_rfl) (by decide) rfl ?_
      refine ev_ ?_
      exact hK
    refine goto_ 3 ?_
    cases hx : nmsE l (j2 + 1) with
    | none =>
      have ho := hno (hout1 none (by rw [decsE, if_pos hp, hx]))
      rw [hx] at hs
      try with_reducible apply c_seq
      refine c_die 3 rfl rfl (fun h => ⟨by kernel_rfl, by kernel_rfl⟩) ?_
      simp only [List.take_succ_cons, List.take_zero]
      refine go_ ?_
      refine run_end ⟨fun h => (by kernel_rfl), ?_⟩
      conv => whnf
      refine And.intro (by kernel_rfl) (vcDie_rd (hs) (by kernel_rfl) (by decide) rfl fun a_ j_ ha_ => ?_)
      conv => whnf
      intro σ_ hσ_
      refine go_ ?_
      conv => whnf
      exact ⟨_, [.cells (rdC l j_ e)], rfl, And.intro (And.intro rfl rfl) trivial, (by rw [ho]; exact ⟨rfl, a_, j_, ha_, rfl, rfl⟩), rfl⟩
    | some rk =>
      obtain ⟨r, k⟩ := rk
      have qn := nms_far hx
      rw [hx] at hs
      have hs2 := s_must l k e [⟨#[59]⟩] (by omega) (by simp)
      refine go_ ?_
      with_reducible apply run_y
      exact want_
      · intro K hK
        refine ev_ ?_
        refine vcCall_rd (hs.got rfl) (by kernel_rfl) (by decide) rfl ?_
        refine ev_ ?_
        exact hK
      refine go_ ?_
      with_reducible apply run_y
      exact want_
      · intro K hK
        refine ev_ ?_
        refine ⟨ssP (v ++ r), ssP_app v r, appOk_ss (l := v) (l' := r) rfl rfl rfl (by first | omega | (simp <;> omega)), ?_⟩
        refine ev_ ?_
        exact hK
      refine goto_ 10 ?_
      cases hm : mustE l [⟨#[59]⟩] k with
      | none =>
        have ho := hno (hout1 none (by rw [decsE, if_pos hp, hx]; simp only; rw [hm]))
        rw [hm] at hs2
        try with_reducible apply c_seq
        refine c_die 2 rfl rfl (fun h => by cases h) ?_
        simp only [List.take_succ_cons, List.take_zero]
        refine go_ ?_
        refine run_end ⟨fun h => (by cases h), ?_⟩
        conv => whnf
        refine And.intro (by kernel_rfl) (vcDie_rd (hs2) (by kernel_rfl) (by decide) rfl fun a_ j_ ha_ => ?_)
        conv => whnf
        intro σ_ hσ_
        refine go_ ?_
        conv => whnf
        exact ⟨_, [.cells (rdC l j_ e)], rfl, And.intro (And.intro rfl rfl) trivial, (by rw [ho]; exact ⟨rfl, a_, j_, ha_, rfl, rfl⟩), rfl⟩
      | some n =>
        have qm := must_far hm (by simp; decide) qn.2.1
        simp only [List.length_cons, List.length_nil] at qm
        rw [hm] at hs2
        have hout2 : ∀ r', decsE l f2 n = r' → decsE l (l.length + 1) 0 = (match r' with
            | none => none
            | some ((v', a'), q) => some (((v ++ r) ++ v', a ++ a'), q)) := fun r' h => by
          have h9 := hout1 (match (generalizing := false) r' with
            | none => none
            | some ((v', a'), q) => some ((r ++ v', a'), q)) (by rw [decsE, if_pos hp, hx]; simp only; rw [hm]; simp only; rw [h]; try (cases r' <;> rfl))
          rw [h9]
          cases r' with
          | none => rfl
          | some rn => simp
        clear hout1 hx hno
        refine go_ ?_
        with_reducible apply run_y
        exact want_
        · intro K hK
          refine ev_ ?_
          refine vcCall_rd (hs2.got rfl) (by kernel_rfl) (by decide) rfl ?_
          refine ev_ ?_
          exact hK
        refine go_ ?_
        refine c_round ⟨_, _, _, _, ?_, ?_, ?_, ⟨v ++ r, a, f2, n, by first | omega | (simp <;> omega), by first | omega | (simp <;> omega), qm.2, by omega, hout2, rfl, .inr (.inr (.inr (.inr (⟨rfl, rfl, rfl⟩))))⟩⟩
        · omega
        · rfl
        · skip
          exact sub_
  by_cases hp2 : peekE l j2 = (⟨#[97, 114, 114, 97, 121]⟩ : ByteArray)
  · have hjl := peek_lt hp2 (by decide)
    have hs := s_take l (j2 + 1) e 1 (by decide) (by omega)
    refine go_ ?_
    with_reducible apply run_y
    exact want_
    · intro K hK
      refine ev_ ?_
      refine vcCall_rd ((s_may_f l j2 e _ (by omega) hp).got rfl) (by kernel_rfl) (by decide) rfl ?_
      refine ev_ ?_
      exact hK
    refine go_ ?_
    with_reducible apply run_y
    exact want_
    · intro K hK
      refine ev_ ?_
      refine vcCall_rd ((s_may_t l j2 e _ (by omega) hp2).got rfl) (by kernel_rfl) (by decide) rfl ?_
      refine ev_ ?_
      exact hK
    refine goto_ 5 ?_
    cases hx : takeE l (j2 + 1) 1 with
    | none =>
      have ho := hno (hout1 none (by rw [decsE, if_neg hp, if_pos hp2, hx]))
      rw [hx] at hs
      try with_reducible apply c_seq
      refine c_die 1 rfl rfl (fun h => by cases h) ?_
      simp only [List.take_succ_cons, List.take_zero]
      refine go_ ?_
      refine run_end ⟨fun h => (by cases h), ?_⟩
      conv => whnf
      refine And.intro (by kernel_rfl) (vcDie_rd (hs) (by kernel_rfl) (by decide) rfl fun a_ j_ ha_ => ?_)
      conv => whnf
      intro σ_ hσ_
      refine go_ ?_
      conv => whnf
      exact ⟨_, [.cells (rdC l j_ e)], rfl, And.intro (And.intro rfl rfl) trivial, (by rw [ho]; exact ⟨rfl, a_, j_, ha_, rfl, rfl⟩), rfl⟩
    | some tk =>
      obtain ⟨t, k⟩ := tk
      obtain ⟨h0, rfl, -, -⟩ := take_some hx
      rw [hx] at hs
      have hs2 := s_must l (j2 + 1 + 1) e [⟨#[91]⟩] (by omega) (by simp)
      obtain ⟨tk, tt, tn, ta⟩ := t
      refine go_ ?_
      with_reducible apply run_y
      exact want_
      · intro K hK
        refine ev_ ?_
        refine vcCall_rd (hs.got rfl) (by kernel_rfl) (by decide) rfl ?_
        refine ev_ ?_
        exact hK
      refine goto_ 6 ?_
      cases hm : mustE l [⟨#[91]⟩] (j2 + 1 + 1) with
      | none =>
        have ho := hno (hout1 none (by rw [decsE, if_neg hp, if_pos hp2, hx]; simp only; rw [hm]))
        rw [hm] at hs2
        try with_reducible apply c_seq
        refine c_die 2 rfl rfl (fun h => by cases h) ?_
        simp only [List.take_succ_cons, List.take_zero]
        refine go_ ?_
        refine run_end ⟨fun h => (by cases h), ?_⟩
        conv => whnf
        refine And.intro (by kernel_rfl) (vcDie_rd (hs2) (by kernel_rfl) (by decide) rfl fun a_ j_ ha_ => ?_)
        conv => whnf
        intro σ_ hσ_
        refine go_ ?_
        conv => whnf
        exact ⟨_, [.cells (rdC l j_ e)], rfl, And.intro (And.intro rfl rfl) trivial, (by rw [ho]; exact ⟨rfl, a_, j_, ha_, rfl, rfl⟩), rfl⟩
      | some k2 =>
        have q2 := must_far hm (by simp; decide) (by omega)
        rw [hm] at hs2
        have hs3 := s_take l k2 e 2 (by decide) (by omega)
        refine go_ ?_
        with_reducible apply run_y
        exact want_
        · intro K hK
          refine ev_ ?_
          refine vcCall_rd (hs2.got rfl) (by kernel_rfl) (by decide) rfl ?_
          refine ev_ ?_
          exact hK
        refine goto_ 7 ?_
        cases hu : takeE l k2 2 with
        | none =>
          have ho := hno (hout1 none (by rw [decsE, if_neg hp, if_pos hp2, hx]; simp only; rw [hm]; simp only; rw [hu]))
          rw [hu] at hs3
          try with_reducible apply c_seq
          refine c_die 1 rfl rfl (fun h => by cases h) ?_
          simp only [List.take_succ_cons, List.take_zero]
          refine go_ ?_
          refine run_end ⟨fun h => (by cases h), ?_⟩
          conv => whnf
          refine And.intro (by kernel_rfl) (vcDie_rd (hs3) (by kernel_rfl) (by decide) rfl fun a_ j_ ha_ => ?_)
          conv => whnf
          intro σ_ hσ_
          refine go_ ?_
          conv => whnf
          exact ⟨_, [.cells (rdC l j_ e)], rfl, And.intro (And.intro rfl rfl) trivial, (by rw [ho]; exact ⟨rfl, a_, j_, ha_, rfl, rfl⟩), rfl⟩
        | some uk =>
          obtain ⟨u, k3⟩ := uk
          obtain ⟨h03, rfl, -, -⟩ := take_some hu
          rw [hu] at hs3
          obtain ⟨uk, ut, un, ua⟩ := u
          have hun : un.toNat < 4294967296 := un.toNat_lt
          have hwn : IntKind.i64.wrap ((un.toNat : Int)) = (un.toNat : Int) := wrap64 (by omega) (by omega)
          have hs4 := s_must l (k2 + 1) e [⟨#[93]⟩] (by omega) (by simp)
          refine go_ ?_
          with_reducible apply run_y
          exact want_
          · intro K hK
            refine ev_ ?_
            refine vcCall_rd (hs3.got rfl) (by kernel_rfl) (by decide) rfl ?_
            refine ev_ ?_
            exact hK
          refine go_ ?_
          rw [hwn]
          refine go_ ?_
          with_reducible apply run_y
          exact want_
          · intro K hK
            refine ev_ ?_
            refine ⟨arsP (a ++ [Ar.mk tt (un.toNat : Int)]), arsP_app a [Ar.mk tt (un.toNat : Int)], appOk_of (es := arsP a) (es' := arsP [Ar.mk tt (un.toNat : Int)]) rfl rfl (by decide) (by decide) (arsP_w _) (arsP_w _) (by rw [arsP_len, arsP_len]; first | omega | (simp <;> omega)), ?_⟩
            refine ev_ ?_
            exact hK
          refine goto_ 9 ?_
          cases hb : mustE l [⟨#[93]⟩] (k2 + 1) with
          | none =>
            have ho := hno (hout1 none (by rw [decsE, if_neg hp, if_pos hp2, hx]; simp only; rw [hm]; simp only; rw [hu]; simp only; rw [hb]))
            rw [hb] at hs4
            try with_reducible apply c_seq
            refine c_die 2 rfl rfl (fun h => by cases h) ?_
            simp only [List.take_succ_cons, List.take_zero]
            refine go_ ?_
            refine run_end ⟨fun h => (by cases h), ?_⟩
            conv => whnf
            refine And.intro (by kernel_rfl) (vcDie_rd (hs4) (by kernel_rfl) (by decide) rfl fun a_ j_ ha_ => ?_)
            conv => whnf
            intro σ_ hσ_
            refine go_ ?_
            conv => whnf
            exact ⟨_, [.cells (rdC l j_ e)], rfl, And.intro (And.intro rfl rfl) trivial, (by rw [ho]; exact ⟨rfl, a_, j_, ha_, rfl, rfl⟩), rfl⟩
          | some k4 =>
            have q4 := must_far hb (by simp; decide) (by omega)
            rw [hb] at hs4
            have hs5 := s_must l k4 e [⟨#[59]⟩] (by omega) (by simp)
            refine go_ ?_
            with_reducible apply run_y
            exact want_
            · intro K hK
              refine ev_ ?_
              refine vcCall_rd (hs4.got rfl) (by kernel_rfl) (by decide) rfl ?_
              refine ev_ ?_
              exact hK
            refine goto_ 10 ?_
            cases hc : mustE l [⟨#[59]⟩] k4 with
            | none =>
              have ho := hno (hout1 none (by rw [decsE, if_neg hp, if_pos hp2, hx]; simp only; rw [hm]; simp only; rw [hu]; simp only; rw [hb]; simp only; rw [hc]))
              rw [hc] at hs5
              try with_reducible apply c_seq
              refine c_die 2 rfl rfl (fun h => by cases h) ?_
              simp only [List.take_succ_cons, List.take_zero]
              refine go_ ?_
              refine run_end ⟨fun h => (by cases h), ?_⟩
              conv => whnf
              refine And.intro (by kernel_rfl) (vcDie_rd (hs5) (by kernel_rfl) (by decide) rfl fun a_ j_ ha_ => ?_)
              conv => whnf
              intro σ_ hσ_
              refine go_ ?_
              conv => whnf
              exact ⟨_, [.cells (rdC l j_ e)], rfl, And.intro (And.intro rfl rfl) trivial, (by rw [ho]; exact ⟨rfl, a_, j_, ha_, rfl, rfl⟩), rfl⟩
            | some n =>
              have qm := must_far hc (by simp; decide) q4.2
              simp only [List.length_cons, List.length_nil] at q2 q4 qm
              rw [hc] at hs5
              have hout2 : ∀ r', decsE l f2 n = r' → decsE l (l.length + 1) 0 = (match r' with
                  | none => none
                  | some ((v', a'), q) => some ((v ++ v', (a ++ [Ar.mk tt (un.toNat : Int)]) ++ a'), q)) := fun r' h => by
                have h9 := hout1 (match (generalizing := false) r' with
                  | none => none
                  | some ((v', a'), q) => some ((v', Ar.mk tt (un.toNat : Int) :: a'), q)) (by rw [decsE, if_neg hp, if_pos hp2, hx]; simp only; rw [hm]; simp only; rw [hu]; simp only; rw [hb]; simp only; rw [hc]; simp only; rw [h]; try (cases r' <;> rfl))
                rw [h9]
                cases r' with
                | none => rfl
                | some rn => simp
              clear hout1 hx hno
              refine go_ ?_
              with_reducible apply run_y
              exact want_
              · intro K hK
                refine ev_ ?_
                refine vcCall_rd (hs5.got rfl) (by kernel_rfl) (by decide) rfl ?_
                refine ev_ ?_
                exact hK
              refine go_ ?_
              refine c_round ⟨_, _, _, _, ?_, ?_, ?_, ⟨v, a ++ [Ar.mk tt (un.toNat : Int)], f2, n, by first | omega | (simp <;> omega), by first | omega | (simp <;> omega), qm.2, by omega, hout2, rfl, .inr (.inr (.inr (.inr (⟨rfl, rfl, rfl⟩))))⟩⟩
              · omega
              · rfl
              · skip
                exact sub_
  have hd : decsE l (l.length + 1) 0 = some ((v, a), j2) := by
    have := hout1 (some (([], []), j2)) (by rw [decsE, if_neg hp, if_neg hp2])
    simpa using this
  clear hout1 hno
  have hs := s_pfun l e hl j2 hj2
  refine go_ ?_
  with_reducible apply run_y
  exact want_
  · intro K hK
    refine ev_ ?_
    refine vcCall_rd ((s_may_f l j2 e _ (by omega) hp).got rfl) (by kernel_rfl) (by decide) rfl ?_
    refine ev_ ?_
    exact hK
  refine go_ ?_
  with_reducible apply run_y
  exact want_
  · intro K hK
    refine ev_ ?_
    refine vcCall_rd ((s_may_f l j2 e _ (by omega) hp2).got rfl) (by kernel_rfl) (by decide) rfl ?_
    refine ev_ ?_
    exact hK
  refine goto_ 11 ?_
  cases hx : funE l j2 with
  | none =>
    have ho : pgO (progE l) = none := by unfold progE; rw [hd]; simp only; rw [hx]; rfl
    rw [hx] at hs
    try with_reducible apply c_seq
    refine c_die 3 rfl rfl (fun h => ⟨by kernel_rfl, by kernel_rfl⟩) ?_
    simp only [List.take_succ_cons, List.take_zero]
    refine go_ ?_
    refine run_end ⟨fun h => (by kernel_rfl), ?_⟩
    conv => whnf
    refine And.intro (by kernel_rfl) (vcDie_rd (hs) (by kernel_rfl) (by decide) rfl fun a_ j_ ha_ => ?_)
    conv => whnf
    intro σ_ hσ_
    refine go_ ?_
    conv => whnf
    exact ⟨_, [.cells (rdC l j_ e)], rfl, And.intro (And.intro rfl rfl) trivial, (by rw [ho]; exact ⟨rfl, a_, j_, ha_, rfl, rfl⟩), rfl⟩
  | some xk =>
    obtain ⟨x, k⟩ := xk
    have qx := fun_far hj2 hx
    rw [hx] at hs
    have hpo : pgO (progE l) = (match funsE l (l.length + 1) k with
        | none => none
        | some (r, n) => some (.agg (pgC ⟨v, a, [x] ++ r⟩), n)) := by
      unfold progE
      rw [hd]
      simp only
      rw [hx]
      simp only
      cases funsE l (l.length + 1) k with
      | none => rfl
      | some rn => rfl
    rw [hpo]
    clear hd hx
    obtain ⟨xn, xp, xl, xw, xb⟩ := x
    refine go_ ?_
    with_reducible apply run_y
    exact want_
    · intro K hK
      refine ev_ ?_
      refine vcCall_rd (hs.got rfl) (by kernel_rfl) (by decide) rfl ?_
      refine ev_ ?_
      exact hK
    refine go_ ?_
    with_reducible apply run_y
    exact want_
    · intro K hK
      refine ev_ ?_
      refine ⟨fusP ([] ++ [Fu.mk xn xp xl xw xb]), fusP_app [] [Fu.mk xn xp xl xw xb], appOk_of (es := fusP []) (es' := fusP [Fu.mk xn xp xl xw xb]) rfl rfl (by decide) (by decide) (fusP_w _) (fusP_w _) (by rw [fusP_len, fusP_len]; first | omega | (simp <;> omega)), ?_⟩
      conv => whnf
      refine Or.inl ?_
      refine ev_ ?_
      exact hK
    refine go_ ?_
    refine c_loop (fun k2 q m h => ∃ (acc : List Fu) (f3 j3 : Nat), acc.length ≤ j3 ∧ j3 ≤ l.length ∧ l.length < f3 + j3 ∧ (match funsE l f3 j3 with
                | none => none
                | some (r, n) => some (PV.agg (pgC ⟨v, a, acc ++ r⟩), n)) = (match funsE l (l.length + 1) k with
                | none => none
                | some (r, n) => some (PV.agg (pgC ⟨v, a, [Fu.mk xn xp xl xw xb] ++ r⟩), n)) ∧ k2 = f3 ∧ q = [.ptr 1 0, .top, .ptr 2 0, .ptr 3 0] ++ List.replicate 61 .top ∧ m = 7 ∧ h = [(1, .cells (rdC l j3 e)), (2, .cells pg0), (3, .cells [.sl (.own 5) (ssP v), .sl (.own 4) (arsP a), .sl (.own 6) (fusP acc)]), (4, .row (arsP a).length 50), (5, .row (ssP v).length 9), (6, .row (fusP acc).length 54)])
      ⟨_, _, _, _, ?_, ?_, ⟨[] ++ [Fu.mk xn xp xl xw xb], l.length + 1, k, by first | omega | (simp <;> omega), qx.2, by omega, rfl, rfl, rfl, rfl, rfl⟩⟩ ?_
    · rfl
    · skip
      exact sub_
    rintro k2 q m h hlen ⟨acc, f3, j3, hac, hj3, hf3, hout, rfl, rfl, rfl, rfl⟩
    clear hlen
    cases k2 with
    | zero => exfalso; omega
    | succ f3 =>
      rw [funsE] at hout
      by_cases hlt : j3 < l.length
      · have g0 : decide ((j3 : Int) < ((l.map tkC).length : Int)) = true := decide_eq_true (by rw [tkC_len]; omega)
        rw [if_pos hlt] at hout
        have hs := s_pfun l e hl j3 hj3
        cases hx : funE l j3 with
        | none =>
          rw [hx] at hout hs
          refine goto_ 13 ?_
          try with_reducible apply c_seq
          refine c_die 3 rfl rfl (fun h => ⟨by kernel_rfl, by kernel_rfl⟩) ?_
          simp only [List.take_succ_cons, List.take_zero]
          refine go_ ?_
          refine run_end ⟨fun h => (by kernel_rfl), ?_⟩
          conv => whnf
          refine And.intro (by kernel_rfl) (vcDie_rd (hs) (by kernel_rfl) (by decide) rfl fun a_ j_ ha_ => ?_)
          conv => whnf
          intro σ_ hσ_
          refine go_ ?_
          conv => whnf
          exact ⟨_, [.cells (rdC l j_ e)], rfl, And.intro (And.intro rfl rfl) trivial, (by rw [← hout]; exact ⟨rfl, a_, j_, ha_, rfl, rfl⟩), rfl⟩
        | some yk =>
          obtain ⟨y, n⟩ := yk
          have qy := fun_far hj3 hx
          rw [hx] at hout hs
          have hout2 : (match funsE l f3 n with
                | none => none
                | some (r, n) => some (PV.agg (pgC ⟨v, a, (acc ++ [y]) ++ r⟩), n)) = (match funsE l (l.length + 1) k with
                | none => none
                | some (r, n) => some (PV.agg (pgC ⟨v, a, [Fu.mk xn xp xl xw xb] ++ r⟩), n)) := by
            rw [← hout]
            simp only
            cases funsE l f3 n with
            | none => rfl
            | some rn => simp
          clear hout hx
          obtain ⟨yn, yp, yl, yw, yb⟩ := y
          refine go_ ?_
          with_reducible apply run_y
          exact want_
          · intro K hK
            refine ev_ ?_
            refine vcCall_rd (hs.got rfl) (by kernel_rfl) (by decide) rfl ?_
            refine ev_ ?_
            exact hK
          refine go_ ?_
          with_reducible apply run_y
          exact want_
          · intro K hK
            refine ev_ ?_
            refine ⟨fusP (acc ++ [Fu.mk yn yp yl yw yb]), fusP_app acc [Fu.mk yn yp yl yw yb], appOk_of (es := fusP acc) (es' := fusP [Fu.mk yn yp yl yw yb]) rfl rfl (by decide) (by decide) (fusP_w _) (fusP_w _) (by rw [fusP_len, fusP_len]; first | omega | (simp <;> omega)), ?_⟩
            refine ev_ ?_
            exact hK
          refine go_ ?_
          refine c_round ⟨_, _, _, _, ?_, ?_, ?_, ⟨acc ++ [Fu.mk yn yp yl yw yb], f3, n, by first | omega | (simp <;> omega), qy.2, by omega, hout2, rfl, rfl, rfl, rfl⟩⟩
          · omega
          · rfl
          · skip
            exact sub_
      · have g0 : decide ((j3 : Int) < ((l.map tkC).length : Int)) = false := decide_eq_false (by rw [tkC_len]; omega)
        rw [if_neg hlt] at hout
        have hout2 : (match funsE l (l.length + 1) k with
                | none => none
                | some (r, n) => some (PV.agg (pgC ⟨v, a, [Fu.mk xn xp xl xw xb] ++ r⟩), n)) = some (PV.agg (pgC ⟨v, a, acc⟩), j3) := by rw [← hout]; simp
        refine go_ ?_
        refine ev_ ?_
        exact ⟨_, [.cells (rdC l (j3) e)], .mk rfl (And.intro (And.intro rfl rfl) trivial), (by rw [hout2]; exact ⟨rfl, rfl, rfl⟩), rfl, rfl⟩
end Go.Proofs.YtddggjmfplohkaaDoor
