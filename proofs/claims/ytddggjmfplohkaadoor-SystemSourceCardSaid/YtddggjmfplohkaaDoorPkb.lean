import Derived.Test.YtddggjmfplohkaaDoorPk
/- The reader: functions, walked (without parameters). -/
namespace Go.Proofs.YtddggjmfplohkaaDoor
open Go Go.RowKit
set_option maxHeartbeats 8000000 in
set_option maxRecDepth 100000 in
theorem s_pkb (l : List Tk) (e : Int) (hl : l.length ≤ 100000) (i : Nat) (hi : i ≤ l.length) (hK : ∀ i1 t j i3, mustE l [⟨#[102, 117, 110, 99]⟩] i = some i1 → takeE l i1 1 = some (t, j) → mustE l [⟨#[40]⟩] j = some i3 → kindE l i3 ≠ 1) : SpecRd 46 [] l i e (fuO (funE l i)) := by
  unfold SpecRd
  have hno : headE l i = none → fuO (funE l i) = none := fun h => by unfold funE; rw [h]; rfl
  have hs := s_must l i e [⟨#[102, 117, 110, 99]⟩] (by omega) (by simp)
  refine spec_of_bodyR CX_mixed CU_gpk Tryd.func46 rfl 44 1 (fun c hc => by rw [List.mem_singleton.1 hc]; rfl) rfl rfl ?_
  refine goto_ 2 ?_
  cases h1 : mustE l [⟨#[102, 117, 110, 99]⟩] i with
  | none =>
    have ho := hno (by unfold headE; rw [h1])
    rw [h1] at hs
    try with_reducible apply c_seq
    refine c_die 2 rfl rfl (fun h => by cases h) ?_
    simp only [List.take_succ_cons, List.take_zero]
    refine go_ ?_
    refine run_end ⟨fun h => (by cases h), ?_⟩
    conv => whnf
    refine And.intro (by kernel_rfl) (vcDie_rd (hs) (by kernel_rfl) (by decide) rfl fun a_ j_ ha_ => ?_)
    conv => whnf
    intro σ_ hσ_
    refine go_ ?_
    conv => whnf
    exact ⟨_, [.cells (rdC l j_ e)], rfl, And.intro (And.intro rfl rfl) trivial, (by rw [ho]; exact ⟨rfl, a_, j_, ha_, rfl, rfl⟩), rfl⟩
  | some i1 =>
    have q1 := must_far h1 (by simp; decide) hi
    rw [h1] at hs
    have hs2 := s_take l i1 e 1 (by decide) (by omega)
    refine go_ ?_
    with_reducible apply run_y
    exact want_
    · intro K hK
      refine ev_ ?_
      refine vcCall_rd (hs.got rfl) (by kernel_rfl) (by decide) rfl ?_
      refine ev_ ?_
      exact hK
    refine goto_ 3 ?_
    cases h2 : takeE l i1 1 with
    | none =>
      have ho := hno (by unfold headE; rw [h1]; simp only; rw [h2])
      rw [h2] at hs2
      try with_reducible apply c_seq
      refine c_die 1 rfl rfl (fun h => by cases h) ?_
      simp only [List.take_succ_cons, List.take_zero]
      refine go_ ?_
      refine run_end ⟨fun h => (by cases h), ?_⟩
      conv => whnf
      refine And.intro (by kernel_rfl) (vcDie_rd (hs2) (by kernel_rfl) (by decide) rfl fun a_ j_ ha_ => ?_)
      conv => whnf
      intro σ_ hσ_
      refine go_ ?_
      conv => whnf
      exact ⟨_, [.cells (rdC l j_ e)], rfl, And.intro (And.intro rfl rfl) trivial, (by rw [ho]; exact ⟨rfl, a_, j_, ha_, rfl, rfl⟩), rfl⟩
    | some tj =>
      obtain ⟨t, j⟩ := tj
      obtain ⟨hil, rfl, -, -⟩ := take_some h2
      rw [h2] at hs2
      obtain ⟨tk, tt, tn, ta⟩ := t
      have hs3 := s_must l (i1 + 1) e [⟨#[40]⟩] (by omega) (by simp)
      refine go_ ?_
      with_reducible apply run_y
      exact want_
      · intro K hK
        refine ev_ ?_
        refine vcCall_rd (hs2.got rfl) (by kernel_rfl) (by decide) rfl ?_
        refine ev_ ?_
        exact hK
      refine goto_ 4 ?_
      cases h3 : mustE l [⟨#[40]⟩] (i1 + 1) with
      | none =>
        have ho := hno (by unfold headE; rw [h1]; simp only; rw [h2]; simp only; rw [h3])
        rw [h3] at hs3
        try with_reducible apply c_seq
        refine c_die 2 rfl rfl (fun h => by cases h) ?_
        simp only [List.take_succ_cons, List.take_zero]
        refine go_ ?_
        refine run_end ⟨fun h => (by cases h), ?_⟩
        conv => whnf
        refine And.intro (by kernel_rfl) (vcDie_rd (hs3) (by kernel_rfl) (by decide) rfl fun a_ j_ ha_ => ?_)
        conv => whnf
        intro σ_ hσ_
        refine go_ ?_
        conv => whnf
        exact ⟨_, [.cells (rdC l j_ e)], rfl, And.intro (And.intro rfl rfl) trivial, (by rw [ho]; exact ⟨rfl, a_, j_, ha_, rfl, rfl⟩), rfl⟩
      | some i3 =>
        have q3 := must_far h3 (by simp; decide) (by omega)
        rw [h3] at hs3
        refine go_ ?_
        with_reducible apply run_y
        exact want_
        · intro K hK
          refine ev_ ?_
          refine vcCall_rd (hs3.got rfl) (by kernel_rfl) (by decide) rfl ?_
          refine ev_ ?_
          exact hK
        refine goto_ 5 ?_
        have hk := hK _ _ _ _ h1 h2 h3
        clear hK
        have gk : (kindE l i3 == 1) = false := by simpa using hk
        have h4 : (if kindE l i3 = 1 then nmsE l i3 else some ([], i3)) = some ([], i3) := by rw [if_neg hk]
        have q4 : i3 ≤ l.length := q3.2
        clear hs hs2
        have hs := s_must l i3 e [⟨#[41]⟩] (by omega) (by simp)
        refine go_ ?_
        with_reducible apply run_y
        exact want_
        · intro K hK
          refine ev_ ?_
          refine vcCall_rd ((s_kind l i3 e).got rfl) (by kernel_rfl) (by decide) rfl ?_
          refine ev_ ?_
          exact hK
        refine goto_ 7 ?_
        clear hs3
        cases h5 : mustE l [⟨#[41]⟩] i3 with
        | none =>
          have ho := hno (by unfold headE; rw [h1]; simp only; rw [h2]; simp only; rw [h3]; simp only; rw [h4]; simp only; rw [h5])
          rw [h5] at hs
          try with_reducible apply c_seq
          refine c_die 2 rfl rfl (fun h => by cases h) ?_
          simp only [List.take_succ_cons, List.take_zero]
          refine go_ ?_
          refine run_end ⟨fun h => (by cases h), ?_⟩
          conv => whnf
          refine And.intro (by kernel_rfl) (vcDie_rd (hs) (by kernel_rfl) (by decide) rfl fun a_ j_ ha_ => ?_)
          conv => whnf
          intro σ_ hσ_
          refine go_ ?_
          conv => whnf
          exact ⟨_, [.cells (rdC l j_ e)], rfl, And.intro (And.intro rfl rfl) trivial, (by rw [ho]; exact ⟨rfl, a_, j_, ha_, rfl, rfl⟩), rfl⟩
        | some i5 =>
          have q5 := must_far h5 (by simp; decide) q4
          rw [h5] at hs
          have hs2 := s_may l i5 e (⟨#[119, 111, 114, 100]⟩ : ByteArray) (by omega)
          have q5' : mayE l i5 (⟨#[119, 111, 114, 100]⟩ : ByteArray) ≤ l.length := by
            unfold mayE
            split
            · rename_i hp
              have := peek_lt hp (by decide)
              omega
            · exact q5.2
          have hs3 := s_must l (mayE l i5 (⟨#[119, 111, 114, 100]⟩ : ByteArray)) e [⟨#[123]⟩] (by omega) (by simp)
          refine go_ ?_
          with_reducible apply run_y
          exact want_
          · intro K hK
            refine ev_ ?_
            refine vcCall_rd (hs.got rfl) (by kernel_rfl) (by decide) rfl ?_
            refine ev_ ?_
            exact hK
          refine go_ ?_
          with_reducible apply run_y
          exact want_
          · intro K hK
            refine ev_ ?_
            refine vcCall_rd (hs2.got rfl) (by kernel_rfl) (by decide) rfl ?_
            refine ev_ ?_
            exact hK
          refine goto_ 9 ?_
          cases h6 : mustE l [⟨#[123]⟩] (mayE l i5 (⟨#[119, 111, 114, 100]⟩ : ByteArray)) with
          | none =>
            have ho := hno (by unfold headE; rw [h1]; simp only; rw [h2]; simp only; rw [h3]; simp only; rw [h4]; simp only; rw [h5]; simp only; rw [h6])
            rw [h6] at hs3
            try with_reducible apply c_seq
            refine c_die 2 rfl rfl (fun h => by cases h) ?_
            simp only [List.take_succ_cons, List.take_zero]
            refine go_ ?_
            refine run_end ⟨fun h => (by cases h), ?_⟩
            conv => whnf
            refine And.intro (by kernel_rfl) (vcDie_rd (hs3) (by kernel_rfl) (by decide) rfl fun a_ j_ ha_ => ?_)
            conv => whnf
            intro σ_ hσ_
            refine go_ ?_
            conv => whnf
            exact ⟨_, [.cells (rdC l j_ e)], rfl, And.intro (And.intro rfl rfl) trivial, (by rw [ho]; exact ⟨rfl, a_, j_, ha_, rfl, rfl⟩), rfl⟩
          | some i6 =>
            have q6 := must_far h6 (by simp; decide) q5'
            rw [h6] at hs3
            have hh : headE l i = some ((tt, [], decide (peekE l i5 = (⟨#[119, 111, 114, 100]⟩ : ByteArray))), i6) := by unfold headE; rw [h1]; simp only; rw [h2]; simp only; rw [h3]; simp only; rw [h4]; simp only; rw [h5]; simp only; rw [h6]
            generalize decide (peekE l i5 = (⟨#[119, 111, 114, 100]⟩ : ByteArray)) = w at *
            have hfin : ∀ ls k, locsE l (l.length + 1) i6 = some (ls, k) → fuO (funE l i) = (match stmtsE l (fuS l) k with
              | none => none
              | some (b, n) => some (.agg (fuC ⟨tt, [], ls, w, b⟩), n)) := fun ls k h => by
              unfold funE
              rw [hh]
              simp only
              rw [h]
              simp only
              cases stmtsE l (fuS l) k with
              | none => rfl
              | some bn => rfl
            have hlo : locsE l (l.length + 1) i6 = none → fuO (funE l i) = none := fun h => by unfold funE; rw [hh]; simp only; rw [h]; rfl
            clear hno hh h1 h2 h3 h4 h5 h6
            refine go_ ?_
            with_reducible apply run_y
            exact want_
            · intro K hK
              refine ev_ ?_
              refine vcCall_rd (hs3.got rfl) (by kernel_rfl) (by decide) rfl ?_
              refine ev_ ?_
              exact hK
            refine go_ ?_
            clear hs hs2 hs3
            refine c_loop (fun k q m h => ∃ (acc : List ByteArray) (f2 j2 : Nat), acc.length ≤ j2 ∧ j2 ≤ l.length ∧ l.length < f2 + j2 ∧ (∀ r, locsE l f2 j2 = r → locsE l (l.length + 1) i6 = (match r with
                | none => none
                | some (r, n) => some (acc ++ r, n))) ∧ k = f2 ∧
                ((acc = [] ∧ q = [.ptr 1 0, .top, .ptr 2 0, .ptr 3 0] ++ List.replicate 40 .top ∧ m = 4 ∧ h = [(1, .cells (rdC l j2 e)), (2, .cells fu0), (3, .cells [.v (.string tt), .sl .full ([]), .sl .full [], .v (.bool w), .sl .full []])]) ∨
                 (q = [.ptr 1 0, .top, .ptr 2 0, .ptr 3 0] ++ List.replicate 40 .top ∧ m = 5 ∧ h = [(1, .cells (rdC l j2 e)), (2, .cells fu0), (3, .cells [.v (.string tt), .sl .full ([]), .sl (.own 4) (ssP acc), .v (.bool w), .sl .full []]), (4, .row (ssP acc).length 9)])))
              ⟨_, _, _, _, ?_, ?_, ⟨[], l.length + 1, i6, Nat.zero_le _, q6.2, by omega, fun r h => by rw [h]; cases r <;> rfl, rfl, .inl ⟨rfl, rfl, rfl, rfl⟩⟩⟩ ?_
            · rfl
            · skip
              exact sub_
            rintro k q m h hlen ⟨acc, f2, j2, hac, hj2, hf2, hout, rfl, hq⟩
            clear hlen
            cases k with
            | zero => exfalso; omega
            | succ f2 =>
              have hout1 := fun r h => hout r h
              by_cases hp : peekE l j2 = (⟨#[118, 97, 114]⟩ : ByteArray)
              · have hjl := peek_lt hp (by decide)
                have hs := s_names l (j2 + 1) e hl
                cases hx : nmsE l (j2 + 1) with
                | none =>
                  have ho := hlo (hout1 none (by rw [locsE, if_pos hp, hx]))
                  rw [hx] at hs
                  rcases hq with ⟨rfl, rfl, rfl, rfl⟩ | ⟨rfl, rfl, rfl⟩
                  · skip
                    refine go_ ?_
                    with_reducible apply run_y
                    exact want_
                    · intro K hK
                      refine ev_ ?_
                      refine vcCall_rd ((s_may_t l j2 e _ (by omega) hp).got rfl) (by kernel_rfl) (by decide) rfl ?_
                      refine ev_ ?_
                      exact hK
                    refine goto_ 11 ?_
                    try with_reducible apply c_seq
                    refine c_die 3 rfl rfl (fun h => ⟨by kernel_rfl, by kernel_rfl⟩) ?_
                    simp only [List.take_succ_cons, List.take_zero]
                    refine go_ ?_
                    refine run_end ⟨fun h => (by kernel_rfl), ?_⟩
                    conv => whnf
                    refine And.intro (by kernel_rfl) (vcDie_rd (hs) (by kernel_rfl) (by decide) rfl fun a_ j_ ha_ => ?_)
                    conv => whnf
                    intro σ_ hσ_
                    refine go_ ?_
                    conv => whnf
                    exact ⟨_, [.cells (rdC l j_ e)], rfl, And.intro (And.intro rfl rfl) trivial, (by rw [ho]; exact ⟨rfl, a_, j_, ha_, rfl, rfl⟩), rfl⟩
                  · skip
                    refine go_ ?_
                    with_reducible apply run_y
                    exact want_
                    · intro K hK
                      refine ev_ ?_
                      refine vcCall_rd ((s_may_t l j2 e _ (by omega) hp).got rfl) (by kernel_rfl) (by decide) rfl ?_
                      refine ev_ ?_
                      exact hK
                    refine goto_ 11 ?_
                    try with_reducible apply c_seq
                    refine c_die 3 rfl rfl (fun h => ⟨by kernel_rfl, by kernel_rfl⟩) ?_
                    simp only [List.take_succ_cons, List.take_zero]
                    refine go_ ?_
                    refine run_end ⟨fun h => (by kernel_rfl), ?_⟩
                    conv => whnf
                    refine And.intro (by kernel_rfl) (vcDie_rd (hs) (by kernel_rfl) (by decide) rfl fun a_ j_ ha_ => ?_)
                    conv => whnf
                    intro σ_ hσ_
                    refine go_ ?_
                    conv => whnf
                    exact ⟨_, [.cells (rdC l j_ e)], rfl, And.intro (And.intro rfl rfl) trivial, (by rw [ho]; exact ⟨rfl, a_, j_, ha_, rfl, rfl⟩), rfl⟩
                | some rk =>
                  obtain ⟨r, k⟩ := rk
                  have qn := nms_far hx
                  rw [hx] at hs
                  have hs2 := s_must l k e [⟨#[59]⟩] (by omega) (by simp)
                  cases hm : mustE l [⟨#[59]⟩] k with
                  | none =>
                    have ho := hlo (hout1 none (by rw [locsE, if_pos hp, hx]; simp only; rw [hm]))
                    rw [hm] at hs2
                    rcases hq with ⟨rfl, rfl, rfl, rfl⟩ | ⟨rfl, rfl, rfl⟩
                    · skip
                      refine go_ ?_
                      with_reducible apply run_y
                      exact want_
                      · intro K hK
                        refine ev_ ?_
                        refine vcCall_rd ((s_may_t l j2 e _ (by omega) hp).got rfl) (by kernel_rfl) (by decide) rfl ?_
                        refine ev_ ?_
                        exact hK
                      refine go_ ?_
                      with_reducible apply run_y
                      exact want_
                      · intro K hK
                        refine ev_ ?_
                        refine vcCall_rd (hs.got rfl) (by kernel_rfl) (by decide) rfl ?_
                        refine ev_ ?_
                        exact hK
                      refine go_ ?_
                      with_reducible apply run_y
                      exact want_
                      · intro K hK
                        refine ev_ ?_
                        refine ⟨ssP ([] ++ r), ssP_app [] r, appOk_ss (l := []) (l' := r) rfl rfl rfl (by simp; omega), ?_⟩
                        conv => whnf
                        refine Or.inl ?_
                        refine ev_ ?_
                        exact hK
                      refine goto_ 12 ?_
                      try with_reducible apply c_seq
                      refine c_die 2 rfl rfl (fun h => by cases h) ?_
                      simp only [List.take_succ_cons, List.take_zero]
                      refine go_ ?_
                      refine run_end ⟨fun h => (by cases h), ?_⟩
                      conv => whnf
                      refine And.intro (by kernel_rfl) (vcDie_rd (hs2) (by kernel_rfl) (by decide) rfl fun a_ j_ ha_ => ?_)
                      conv => whnf
                      intro σ_ hσ_
                      refine go_ ?_
                      conv => whnf
                      exact ⟨_, [.cells (rdC l j_ e)], rfl, And.intro (And.intro rfl rfl) trivial, (by rw [ho]; exact ⟨rfl, a_, j_, ha_, rfl, rfl⟩), rfl⟩
                    · skip
                      refine go_ ?_
                      with_reducible apply run_y
                      exact want_
                      · intro K hK
                        refine ev_ ?_
                        refine vcCall_rd ((s_may_t l j2 e _ (by omega) hp).got rfl) (by kernel_rfl) (by decide) rfl ?_
                        refine ev_ ?_
                        exact hK
                      refine go_ ?_
                      with_reducible apply run_y
                      exact want_
                      · intro K hK
                        refine ev_ ?_
                        refine vcCall_rd (hs.got rfl) (by kernel_rfl) (by decide) rfl ?_
                        refine ev_ ?_
                        exact hK
                      refine go_ ?_
                      with_reducible apply run_y
                      exact want_
                      · intro K hK
                        refine ev_ ?_
                        refine ⟨ssP (acc ++ r), ssP_app acc r, appOk_ss (l := acc) (l' := r) rfl rfl rfl (by omega), ?_⟩
                        refine ev_ ?_
                        exact hK
                      refine goto_ 12 ?_
                      try with_reducible apply c_seq
                      refine c_die 2 rfl rfl (fun h => by cases h) ?_
                      simp only [List.take_succ_cons, List.take_zero]
                      refine go_ ?_
                      refine run_end ⟨fun h => (by cases h), ?_⟩
                      conv => whnf
                      refine And.intro (by kernel_rfl) (vcDie_rd (hs2) (by kernel_rfl) (by decide) rfl fun a_ j_ ha_ => ?_)
                      conv => whnf
                      intro σ_ hσ_
                      refine go_ ?_
                      conv => whnf
                      exact ⟨_, [.cells (rdC l j_ e)], rfl, And.intro (And.intro rfl rfl) trivial, (by rw [ho]; exact ⟨rfl, a_, j_, ha_, rfl, rfl⟩), rfl⟩
                  | some n =>
                    have qm := must_far hm (by simp; decide) qn.2.1
                    simp only [List.length_cons, List.length_nil] at qm
                    rw [hm] at hs2
                    have hout2 : ∀ r', locsE l f2 n = r' → locsE l (l.length + 1) i6 = (match r' with
                        | none => none
                        | some (r', n') => some ((acc ++ r) ++ r', n')) := fun r' h => by
                      have h9 := hout1 (match (generalizing := false) r' with
                        | none => none
                        | some (r2, q) => some (r ++ r2, q)) (by rw [locsE, if_pos hp, hx]; simp only; rw [hm]; simp only; rw [h]; try (cases r' <;> rfl))
                      rw [h9]
                      cases r' with
                      | none => rfl
                      | some rn => simp
                    clear hout hout1 hx
                    rcases hq with ⟨rfl, rfl, rfl, rfl⟩ | ⟨rfl, rfl, rfl⟩
                    · skip
                      refine go_ ?_
                      with_reducible apply run_y
                      exact want_
                      · intro K hK
                        refine ev_ ?_
                        refine vcCall_rd ((s_may_t l j2 e _ (by omega) hp).got rfl) (by kernel_rfl) (by decide) rfl ?_
                        refine ev_ ?_
                        exact hK
                      refine go_ ?_
                      with_reducible apply run_y
                      exact want_
                      · intro K hK
                        refine ev_ ?_
                        refine vcCall_rd (hs.got rfl) (by kernel_rfl) (by decide) rfl ?_
                        refine ev_ ?_
                        exact hK
                      refine go_ ?_
                      with_reducible apply run_y
                      exact want_
                      · intro K hK
                        refine ev_ ?_
                        refine ⟨ssP ([] ++ r), ssP_app [] r, appOk_ss (l := []) (l' := r) rfl rfl rfl (by simp; omega), ?_⟩
                        conv => whnf
                        refine Or.inl ?_
                        refine ev_ ?_
                        exact hK
                      refine go_ ?_
                      with_reducible apply run_y
                      exact want_
                      · intro K hK
                        refine ev_ ?_
                        refine vcCall_rd (hs2.got rfl) (by kernel_rfl) (by decide) rfl ?_
                        refine ev_ ?_
                        exact hK
                      refine go_ ?_
                      refine c_round ⟨_, _, _, _, ?_, ?_, ?_, ⟨[] ++ r, f2, n, by simp; omega, qm.2, by omega, hout2, rfl, .inr ⟨rfl, rfl, rfl⟩⟩⟩
                      · omega
                      · rfl
                      · skip
                        exact sub_
                    · skip
                      refine go_ ?_
                      with_reducible apply run_y
                      exact want_
                      · intro K hK
                        refine ev_ ?_
                        refine vcCall_rd ((s_may_t l j2 e _ (by omega) hp).got rfl) (by kernel_rfl) (by decide) rfl ?_
                        refine ev_ ?_
                        exact hK
                      refine go_ ?_
                      with_reducible apply run_y
                      exact want_
                      · intro K hK
                        refine ev_ ?_
                        refine vcCall_rd (hs.got rfl) (by kernel_rfl) (by decide) rfl ?_
                        refine ev_ ?_
                        exact hK
                      refine go_ ?_
                      with_reducible apply run_y
                      exact want_
                      · intro K hK
                        refine ev_ ?_
                        refine ⟨ssP (acc ++ r), ssP_app acc r, appOk_ss (l := acc) (l' := r) rfl rfl rfl (by omega), ?_⟩
                        refine ev_ ?_
                        exact hK
                      refine go_ ?_
                      with_reducible apply run_y
                      exact want_
                      · intro K hK
                        refine ev_ ?_
                        refine vcCall_rd (hs2.got rfl) (by kernel_rfl) (by decide) rfl ?_
                        refine ev_ ?_
                        exact hK
                      refine go_ ?_
                      refine c_round ⟨_, _, _, _, ?_, ?_, ?_, ⟨acc ++ r, f2, n, by simp; omega, qm.2, by omega, hout2, rfl, .inr ⟨rfl, rfl, rfl⟩⟩⟩
                      · omega
                      · rfl
                      · skip
                        exact sub_
              · have ho := hfin acc j2 (by have := hout1 (some ([], j2)) (by rw [locsE, if_neg hp]); simpa using this)
                have hs := tss1 l e hl j2 hj2
                cases hx : stmtsE l (fuS l) j2 with
                | none =>
                  rw [hx] at ho hs
                  rcases hq with ⟨rfl, rfl, rfl, rfl⟩ | ⟨rfl, rfl, rfl⟩
                  · skip
                    refine go_ ?_
                    with_reducible apply run_y
                    exact want_
                    · intro K hK
                      refine ev_ ?_
                      refine vcCall_rd ((s_may_f l j2 e _ (by omega) hp).got rfl) (by kernel_rfl) (by decide) rfl ?_
                      refine ev_ ?_
                      exact hK
                    refine goto_ 13 ?_
                    try with_reducible apply c_seq
                    refine c_die 1 rfl rfl (fun h => by cases h) ?_
                    simp only [List.take_succ_cons, List.take_zero]
                    refine go_ ?_
                    refine run_end ⟨fun h => (by cases h), ?_⟩
                    conv => whnf
                    refine And.intro (by kernel_rfl) (vcDie_rd (hs) (by kernel_rfl) (by decide) rfl fun a_ j_ ha_ => ?_)
                    conv => whnf
                    intro σ_ hσ_
                    refine go_ ?_
                    conv => whnf
                    exact ⟨_, [.cells (rdC l j_ e)], rfl, And.intro (And.intro rfl rfl) trivial, (by rw [ho]; exact ⟨rfl, a_, j_, ha_, rfl, rfl⟩), rfl⟩
                  · skip
                    refine go_ ?_
                    with_reducible apply run_y
                    exact want_
                    · intro K hK
                      refine ev_ ?_
                      refine vcCall_rd ((s_may_f l j2 e _ (by omega) hp).got rfl) (by kernel_rfl) (by decide) rfl ?_
                      refine ev_ ?_
                      exact hK
                    refine goto_ 13 ?_
                    try with_reducible apply c_seq
                    refine c_die 1 rfl rfl (fun h => by cases h) ?_
                    simp only [List.take_succ_cons, List.take_zero]
                    refine go_ ?_
                    refine run_end ⟨fun h => (by cases h), ?_⟩
                    conv => whnf
                    refine And.intro (by kernel_rfl) (vcDie_rd (hs) (by kernel_rfl) (by decide) rfl fun a_ j_ ha_ => ?_)
                    conv => whnf
                    intro σ_ hσ_
                    refine go_ ?_
                    conv => whnf
                    exact ⟨_, [.cells (rdC l j_ e)], rfl, And.intro (And.intro rfl rfl) trivial, (by rw [ho]; exact ⟨rfl, a_, j_, ha_, rfl, rfl⟩), rfl⟩
                | some bn =>
                  obtain ⟨b, n⟩ := bn
                  rw [hx] at ho hs
                  rcases hq with ⟨rfl, rfl, rfl, rfl⟩ | ⟨rfl, rfl, rfl⟩
                  · skip
                    refine go_ ?_
                    with_reducible apply run_y
                    exact want_
                    · intro K hK
                      refine ev_ ?_
                      refine vcCall_rd ((s_may_f l j2 e _ (by omega) hp).got rfl) (by kernel_rfl) (by decide) rfl ?_
                      refine ev_ ?_
                      exact hK
                    refine go_ ?_
                    with_reducible apply run_y
                    exact want_
                    · intro K hK
                      refine ev_ ?_
                      refine vcCall_rd (hs.got rfl) (by kernel_rfl) (by decide) rfl ?_
                      refine ev_ ?_
                      exact hK
                    refine go_ ?_
                    refine ev_ ?_
                    exact ⟨_, [.cells (rdC l (n) e)], .mk rfl (And.intro (And.intro rfl rfl) trivial), (by rw [ho]; exact ⟨rfl, rfl, rfl⟩), rfl, rfl⟩
                  · skip
                    refine go_ ?_
                    with_reducible apply run_y
                    exact want_
                    · intro K hK
                      refine ev_ ?_
                      refine vcCall_rd ((s_may_f l j2 e _ (by omega) hp).got rfl) (by kernel_rfl) (by decide) rfl ?_
                      refine ev_ ?_
                      exact hK
                    refine go_ ?_
                    with_reducible apply run_y
                    exact want_
                    · intro K hK
                      refine ev_ ?_
                      refine vcCall_rd (hs.got rfl) (by kernel_rfl) (by decide) rfl ?_
                      refine ev_ ?_
                      exact hK
                    refine go_ ?_
                    refine ev_ ?_
                    exact ⟨_, [.cells (rdC l (n) e)], .mk rfl (And.intro (And.intro rfl rfl) trivial), (by rw [ho]; exact ⟨rfl, rfl, rfl⟩), rfl, rfl⟩
end Go.Proofs.YtddggjmfplohkaaDoor
