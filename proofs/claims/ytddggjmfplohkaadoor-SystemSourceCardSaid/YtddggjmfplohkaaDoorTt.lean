import Derived.Test.YtddggjmfplohkaaDoorTs
/- Whether two programs are the same: statements, and all. -/
namespace Go.Proofs.YtddggjmfplohkaaDoor
open Go.RowKit
set_option linter.unnecessarySimpa false
theorem sm_inj {k k' : Int} {s s' : ByteArray} {e e' : List Ex} {t t' f f' : List Sm} : (Sm.mk k s e t f = .mk k' s' e' t' f') ↔ (k = k' ∧ s = s' ∧ e = e' ∧ t = t' ∧ f = f') := by
  constructor
  · intro h; cases h; exact ⟨rfl, rfl, rfl, rfl, rfl⟩
  · rintro ⟨rfl, rfl, rfl, rfl, rfl⟩; rfl
/-- Whether statements are the same is told. -/
def TellsS (l : List Sm) : Prop := ∀ l' : List Sm, Spec (Ctx.mk Tryd.prog globT 7 LaidT) 19 [.sl .any (smsC l), .sl .any (smsC l')] [] (.v (.bool (eqB l l'))) []
set_option maxHeartbeats 8000000 in
set_option maxRecDepth 100000 in
theorem s_sameStmts (l : List Sm) (hl : l.length ≤ 1000000) (ih : ∀ k s e t f, Sm.mk k s e t f ∈ l → TellsE e ∧ TellsS t ∧ TellsS f) : TellsS l := by
  intro l'
  by_cases hll : l.length = l'.length
  · have g0 : (((smsC l).length : Int) != ((smsC l').length : Int)) = false := by rw [smsC_len, smsC_len, hll]; simp
    refine spec_of_bodyL CX_mixed CX_gpk Tryd.func19 rfl 59 0 rfl rfl rfl rfl ?_
    refine go_ ?_
    refine c_loop (fun k q m h => ∃ j : Nat, j ≤ l.length ∧ l.take j = l'.take j ∧ k = l.length - j ∧ q = [.top, .sl .any (smsC l')] ++ List.replicate 11 .top ++ [.sl .any (smsC l), .v (.int .i64 ((smsC l).length : Int)), .v (.int .i64 (j : Int))] ++ List.replicate 43 .top ∧ m = 1 ∧ h = [])
      ⟨_, _, _, _, ?_, ?_, ⟨0, Nat.zero_le _, rfl, rfl, rfl, rfl, rfl⟩⟩ ?_
    · rfl
    · skip
      exact sub_
    rintro k q m h hlen ⟨j, hj, ht, rfl, rfl, rfl, rfl⟩
    clear hlen
    refine go_ ?_
    first | refine run_b rfl rfl rfl (fun hb => ?_) (fun hb => ?_) | refine c_cond rfl (fun hb => ?_) (fun hb => ?_)
    · have hj' : j < l.length := by have := of_decide_eq_true hb; rw [smsC_len] at this; omega
      have hj2 : j < l'.length := by omega
      have hw2 : IntKind.i64.wrap ((j : Int) + 1) = ((j + 1 : Nat) : Int) := by rw [wrap64 (by omega) (by omega)]; omega
      have hat := smsC_at hj'
      have hat2 := smsC_at hj2
      have hm : l[j] ∈ l := List.getElem_mem hj'
      have hne := fun he => ne_at hj' hj2 he
      have hte := fun he => take_eq ht hj' hj2 he
      generalize l[j] = e at *
      generalize l'[j] = e' at *
      obtain ⟨ek, es, ee, et, ef⟩ := e
      obtain ⟨ek', es', ee', et', ef'⟩ := e'
      obtain ⟨hE, hT, hF⟩ := ih _ _ _ _ _ hm
      have hE := hE ee'
      have hT := hT et'
      have hF := hF ef'
      rw [ne_eq, sm_inj] at hne
      rw [sm_inj] at hte
      refine go_ ?_
      with_reducible apply run_y
      exact want_
      · intro K hK
        refine ev_ ?_
        refine ⟨j, _, rfl, hat, rfl, ?_⟩
        refine ev_ ?_
        exact hK
      refine go_ ?_
      with_reducible apply run_y
      exact want_
      · intro K hK
        refine ev_ ?_
        refine ⟨j, _, rfl, hat2, rfl, ?_⟩
        refine ev_ ?_
        exact hK
      by_cases h1 : ek = ek'
      · have g1 : (ek != ek') = false := by simpa using h1
        by_cases h2 : es = es'
        · have g2 : (!decide (es = es')) = false := by simpa using h2
          have gA : (bif ek != ek' then true else !decide (es = es')) = false := by rw [g1, g2]; rfl
          by_cases h3 : ee = ee'
          · have g3 : (!eqB ee ee') = false := by rw [eqB_t h3]; rfl
            have gB : (bif (bif ek != ek' then true else !decide (es = es')) then true else !eqB ee ee') = false := by rw [gA, g3]; rfl
            by_cases h4 : et = et'
            · have g4 : (!eqB et et') = false := by rw [eqB_t h4]; rfl
              by_cases h5 : ef = ef'
              · have g5 : (bif !eqB et et' then true else !eqB ef ef') = false := by rw [g4, eqB_t h5]; rfl
                refine go_ ?_
                with_reducible apply run_y
                exact want_
                · intro K hK
                  refine ev_ ?_
                  refine vcCall_plain (hE) (by kernel_rfl) ?_
                  refine ev_ ?_
                  exact hK
                refine go_ ?_
                with_reducible apply run_y
                exact want_
                · intro K hK
                  refine ev_ ?_
                  refine vcCall_plain (hT) (by kernel_rfl) ?_
                  refine ev_ ?_
                  exact hK
                refine go_ ?_
                with_reducible apply run_y
                exact want_
                · intro K hK
                  refine ev_ ?_
                  refine vcCall_plain (hF) (by kernel_rfl) ?_
                  refine ev_ ?_
                  exact hK
                refine go_ ?_
                rw [hw2]
                refine c_round ⟨_, _, _, _, ?_, ?_, ?_, ⟨j + 1, by omega, hte ⟨h1, h2, h3, h4, h5⟩, rfl, rfl, rfl, rfl⟩⟩
                · omega
                · rfl
                · skip
                  exact sub_
              · have g5 : (bif !eqB et et' then true else !eqB ef ef') = true := by rw [g4, eqB_f h5]; rfl
                refine go_ ?_
                with_reducible apply run_y
                exact want_
                · intro K hK
                  refine ev_ ?_
                  refine vcCall_plain (hE) (by kernel_rfl) ?_
                  refine ev_ ?_
                  exact hK
                refine go_ ?_
                with_reducible apply run_y
                exact want_
                · intro K hK
                  refine ev_ ?_
                  refine vcCall_plain (hT) (by kernel_rfl) ?_
                  refine ev_ ?_
                  exact hK
                refine go_ ?_
                with_reducible apply run_y
                exact want_
                · intro K hK
                  refine ev_ ?_
                  refine vcCall_plain (hF) (by kernel_rfl) ?_
                  refine ev_ ?_
                  exact hK
                refine go_ ?_
                refine ev_ ?_
                exact .mk (vb_eq (by rw [eqB_f (hne (by simp [h5]))])) trivial
            · have g4 : (!eqB et et') = true := by rw [eqB_f h4]; rfl
              refine go_ ?_
              with_reducible apply run_y
              exact want_
              · intro K hK
                refine ev_ ?_
                refine vcCall_plain (hE) (by kernel_rfl) ?_
                refine ev_ ?_
                exact hK
              refine go_ ?_
              with_reducible apply run_y
              exact want_
              · intro K hK
                refine ev_ ?_
                refine vcCall_plain (hT) (by kernel_rfl) ?_
                refine ev_ ?_
                exact hK
              refine go_ ?_
              refine ev_ ?_
              exact .mk (vb_eq (by rw [eqB_f (hne (by simp [h4]))])) trivial
          · have g3 : (!eqB ee ee') = true := by rw [eqB_f h3]; rfl
            have gB : (bif (bif ek != ek' then true else !decide (es = es')) then true else !eqB ee ee') = true := by rw [gA, g3]; rfl
            refine go_ ?_
            with_reducible apply run_y
            exact want_
            · intro K hK
              refine ev_ ?_
              refine vcCall_plain (hE) (by kernel_rfl) ?_
              refine ev_ ?_
              exact hK
            refine go_ ?_
            refine ev_ ?_
            exact .mk (vb_eq (by rw [eqB_f (hne (by simp [h3]))])) trivial
        · have g2 : (!decide (es = es')) = true := by simpa using h2
          have gA : (bif ek != ek' then true else !decide (es = es')) = true := by rw [g1, g2]; rfl
          refine go_ ?_
          refine ev_ ?_
          exact .mk (vb_eq (by rw [eqB_f (hne (by simp [h2]))])) trivial
      · have g1 : (ek != ek') = true := by simpa using h1
        refine go_ ?_
        refine ev_ ?_
        exact .mk (vb_eq (by rw [eqB_f (hne (by simp [h1]))])) trivial
    have hj' : j = l.length := by have := of_decide_eq_false hb; rw [smsC_len] at this; omega
    subst hj'
    refine go_ ?_
    refine ev_ ?_
    exact .mk (vb_eq (by rw [eqB_t (all_eq hll ht)])) trivial
  · have g0 : (((smsC l).length : Int) != ((smsC l').length : Int)) = true := by rw [smsC_len, smsC_len]; simp; omega
    refine spec_of_bodyL CX_mixed CX_gpk Tryd.func19 rfl 59 0 rfl rfl rfl rfl ?_
    refine go_ ?_
    refine ev_ ?_
    exact .mk (vb_eq (by rw [eqB_f (fun e => hll (by rw [e]))])) trivial
theorem tellsS_ok : ∀ (d : Nat) (l : List Sm), l.length ≤ 1000000 → (∀ e ∈ l, okS d e) → TellsS l
  | 0, l, hl, h => s_sameStmts l hl fun k s e t f hm => (h _ hm).elim
  | d + 1, l, hl, h => s_sameStmts l hl fun k s e t f hm => by
    obtain ⟨h1, h2, h3, h4, h5, h6, h7, h8, h9, h10⟩ := h _ hm
    exact ⟨tellsE_ok d e (by omega) h8, tellsS_ok d t h4 h9, tellsS_ok d f h5 h10⟩
end Go.Proofs.YtddggjmfplohkaaDoor
