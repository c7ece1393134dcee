import Derived.Test.YtddggjmfplohkaaDoorTz
/- Whether two programs are the same. -/
namespace Go.Proofs.YtddggjmfplohkaaDoor
open Go.RowKit
set_option linter.unnecessarySimpa false
noncomputable def eqB {α : Type} (a b : α) : Bool := @decide (a = b) (Classical.propDecidable _)
theorem eqB_t {α : Type} {a b : α} (h : a = b) : eqB a b = true := by unfold eqB; simpa using h
theorem eqB_f {α : Type} {a b : α} (h : a ≠ b) : eqB a b = false := by unfold eqB; simpa using h
theorem take_eq {α : Type} {l l' : List α} {j : Nat} (h : l.take j = l'.take j) (h1 : j < l.length) (h2 : j < l'.length) (he : l[j] = l'[j]) : l.take (j + 1) = l'.take (j + 1) := by
  rw [List.take_succ_eq_append_getElem h1, List.take_succ_eq_append_getElem h2, h, he]
theorem ne_at {α : Type} {l l' : List α} {j : Nat} (h1 : j < l.length) (h2 : j < l'.length) (he : l[j] ≠ l'[j]) : l ≠ l' := fun e => by subst e; exact he rfl
theorem all_eq {α : Type} {l l' : List α} (hl : l.length = l'.length) (h : l.take l.length = l'.take l.length) : l = l' := by
  rw [List.take_length, hl, List.take_length] at h
  exact h
set_option maxHeartbeats 4000000 in
set_option maxRecDepth 100000 in
theorem s_sameTexts (l l' : List ByteArray) (hl : l.length ≤ 1000000) : Spec (Ctx.mk Tryd.prog globT 7 LaidT) 18 [.sl .any (ssP l), .sl .any (ssP l')] [] (.v (.bool (eqB l l'))) [] := by
  by_cases hll : l.length = l'.length
  · have g0 : (((ssP l).length : Int) != ((ssP l').length : Int)) = false := by rw [ssP_len, ssP_len, hll]; simp
    refine spec_of_bodyL CX_mixed CX_gpk Tryd.func18 rfl 26 0 rfl rfl rfl rfl ?_
    refine go_ ?_
    refine c_loop (fun k q m h => ∃ j : Nat, j ≤ l.length ∧ l.take j = l'.take j ∧ k = l.length - j ∧ q = [.top, .sl .any (ssP l')] ++ List.replicate 10 .top ++ [.sl .any (ssP l), .v (.int .i64 ((ssP l).length : Int)), .v (.int .i64 (j : Int))] ++ List.replicate 11 .top ∧ m = 1 ∧ h = [])
      ⟨_, _, _, _, ?_, ?_, ⟨0, Nat.zero_le _, rfl, rfl, rfl, rfl, rfl⟩⟩ ?_
    · rfl
    · skip
      exact sub_
    rintro k q m h hlen ⟨j, hj, ht, rfl, rfl, rfl, rfl⟩
    clear hlen
    refine go_ ?_
    first | refine run_b rfl rfl rfl (fun hb => ?_) (fun hb => ?_) | refine c_cond rfl (fun hb => ?_) (fun hb => ?_)
    · have hj' : j < l.length := by have := of_decide_eq_true hb; rw [ssP_len] at this; omega
      have hj2 : j < l'.length := by omega
      have hw2 : IntKind.i64.wrap ((j : Int) + 1) = ((j + 1 : Nat) : Int) := by rw [wrap64 (by omega) (by omega)]; omega
      have e1 : l.getD j ByteArray.empty = l[j] := by simp [List.getD, hj']
      have e2 : l'.getD j ByteArray.empty = l'[j] := by simp [List.getD, hj2]
      by_cases he : l[j] = l'[j]
      · have g1 : (!decide (l.getD j ByteArray.empty = l'.getD j ByteArray.empty)) = false := by rw [e1, e2]; simpa using he
        refine go_ ?_
        rw [hw2]
        refine c_round ⟨_, _, _, _, ?_, ?_, ?_, ⟨j + 1, by omega, take_eq ht hj' hj2 he, rfl, rfl, rfl, rfl⟩⟩
        · omega
        · rfl
        · skip
          exact sub_
      · have g1 : (!decide (l.getD j ByteArray.empty = l'.getD j ByteArray.empty)) = true := by rw [e1, e2]; simpa using he
        refine go_ ?_
        refine ev_ ?_
        exact .mk (vb_eq (by rw [eqB_f (ne_at hj' hj2 he)])) trivial
    have hj' : j = l.length := by have := of_decide_eq_false hb; rw [ssP_len] at this; omega
    subst hj'
    refine go_ ?_
    refine ev_ ?_
    exact .mk (vb_eq (by rw [eqB_t (all_eq hll ht)])) trivial
  · have g0 : (((ssP l).length : Int) != ((ssP l').length : Int)) = true := by rw [ssP_len, ssP_len]; simp; omega
    refine spec_of_bodyL CX_mixed CX_gpk Tryd.func18 rfl 26 0 rfl rfl rfl rfl ?_
    refine go_ ?_
    refine ev_ ?_
    exact .mk (vb_eq (by rw [eqB_f (fun e => hll (by rw [e]))])) trivial
theorem ex_inj {k o k' o' : Int} {n n' : UInt32} {s s' : ByteArray} {ks ks' : List Ex} : (Ex.mk k o n s ks = .mk k' o' n' s' ks') ↔ (k = k' ∧ o = o' ∧ n = n' ∧ s = s' ∧ ks = ks') := by
  constructor
  · intro h; cases h; exact ⟨rfl, rfl, rfl, rfl, rfl⟩
  · rintro ⟨rfl, rfl, rfl, rfl, rfl⟩; rfl
theorem u32_ne {n n' : UInt32} (h : n ≠ n') : (((n.toNat : Int)) != (n'.toNat : Int)) = true := by
  simp only [bne_iff_ne, ne_eq, Int.ofNat_inj]
  exact fun e => h (UInt32.toNat_inj.1 e)
/-- Whether expressions are the same is told. -/
def TellsE (l : List Ex) : Prop := ∀ l' : List Ex, Spec (Ctx.mk Tryd.prog globT 7 LaidT) 39 [.sl .any (exsC l), .sl .any (exsC l')] [] (.v (.bool (eqB l l'))) []
set_option maxHeartbeats 8000000 in
set_option maxRecDepth 100000 in
theorem s_sameExprs (l : List Ex) (hl : l.length ≤ 1000000) (ih : ∀ k o n s ks, Ex.mk k o n s ks ∈ l → TellsE ks) : TellsE l := by
  intro l'
  by_cases hll : l.length = l'.length
  · have g0 : (((exsC l).length : Int) != ((exsC l').length : Int)) = false := by rw [exsC_len, exsC_len, hll]; simp
    refine spec_of_bodyL CX_mixed CX_gpk Tryd.func39 rfl 57 0 rfl rfl rfl rfl ?_
    refine go_ ?_
    refine c_loop (fun k q m h => ∃ j : Nat, j ≤ l.length ∧ l.take j = l'.take j ∧ k = l.length - j ∧ q = [.top, .sl .any (exsC l')] ++ List.replicate 11 .top ++ [.sl .any (exsC l), .v (.int .i64 ((exsC l).length : Int)), .v (.int .i64 (j : Int))] ++ List.replicate 41 .top ∧ m = 1 ∧ h = [])
      ⟨_, _, _, _, ?_, ?_, ⟨0, Nat.zero_le _, rfl, rfl, rfl, rfl, rfl⟩⟩ ?_
    · rfl
    · skip
      exact sub_
    rintro k q m h hlen ⟨j, hj, ht, rfl, rfl, rfl, rfl⟩
    clear hlen
    refine go_ ?_
    first | refine run_b rfl rfl rfl (fun hb => ?_) (fun hb => ?_) | refine c_cond rfl (fun hb => ?_) (fun hb => ?_)
    · have hj' : j < l.length := by have := of_decide_eq_true hb; rw [exsC_len] at this; omega
      have hj2 : j < l'.length := by omega
      have hw2 : IntKind.i64.wrap ((j : Int) + 1) = ((j + 1 : Nat) : Int) := by rw [wrap64 (by omega) (by omega)]; omega
      have hat := exsC_at hj'
      have hat2 := exsC_at hj2
      have hm : l[j] ∈ l := List.getElem_mem hj'
      have hne := fun he => ne_at hj' hj2 he
      have hte := fun he => take_eq ht hj' hj2 he
      generalize l[j] = e at *
      generalize l'[j] = e' at *
      obtain ⟨ek, eo, en, es, eks⟩ := e
      obtain ⟨ek', eo', en', es', eks'⟩ := e'
      have hI := ih _ _ _ _ _ hm eks'
      rw [ne_eq, ex_inj] at hne
      rw [ex_inj] at hte
      refine go_ ?_
      with_reducible apply run_y
      exact want_
      · intro K hK
        refine ev_ ?_
        refine ⟨j, _, rfl, hat, rfl, ?_⟩
        refine ev_ ?_
        exact hK
      refine go_ ?_
      with_reducible apply run_y
      exact want_
      · intro K hK
        refine ev_ ?_
        refine ⟨j, _, rfl, hat2, rfl, ?_⟩
        refine ev_ ?_
        exact hK
      by_cases h1 : ek = ek'
      · have g1 : (ek != ek') = false := by simpa using h1
        by_cases h2 : eo = eo'
        · have g2 : (eo != eo') = false := by simpa using h2
          have gA : (bif ek != ek' then true else eo != eo') = false := by rw [g1, g2]; rfl
          by_cases h3 : en = en'
          · have g3 : (((en.toNat : Int)) != (en'.toNat : Int)) = false := by rw [h3]; simp
            have gB : (bif (bif ek != ek' then true else eo != eo') then true else ((en.toNat : Int)) != (en'.toNat : Int)) = false := by rw [gA, g3]; rfl
            by_cases h4 : es = es'
            · have g4 : (!decide (es = es')) = false := by simpa using h4
              have gC : (bif (bif (bif ek != ek' then true else eo != eo') then true else ((en.toNat : Int)) != (en'.toNat : Int)) then true else !decide (es = es')) = false := by rw [gB, g4]; rfl
              by_cases h5 : eks = eks'
              · have g5 : (!eqB eks eks') = false := by rw [eqB_t h5]; rfl
                refine go_ ?_
                with_reducible apply run_y
                exact want_
                · intro K hK
                  refine ev_ ?_
                  refine vcCall_plain (hI) (by kernel_rfl) ?_
                  refine ev_ ?_
                  exact hK
                refine go_ ?_
                rw [hw2]
                refine c_round ⟨_, _, _, _, ?_, ?_, ?_, ⟨j + 1, by omega, hte ⟨h1, h2, h3, h4, h5⟩, rfl, rfl, rfl, rfl⟩⟩
                · omega
                · rfl
                · skip
                  exact sub_
              · have g5 : (!eqB eks eks') = true := by rw [eqB_f h5]; rfl
                refine go_ ?_
                with_reducible apply run_y
                exact want_
                · intro K hK
                  refine ev_ ?_
                  refine vcCall_plain (hI) (by kernel_rfl) ?_
                  refine ev_ ?_
                  exact hK
                refine go_ ?_
                refine ev_ ?_
                exact .mk (vb_eq (by rw [eqB_f (hne (by simp [h5]))])) trivial
            · have g4 : (!decide (es = es')) = true := by simpa using h4
              have gC : (bif (bif (bif ek != ek' then true else eo != eo') then true else ((en.toNat : Int)) != (en'.toNat : Int)) then true else !decide (es = es')) = true := by rw [gB, g4]; rfl
              refine go_ ?_
              refine ev_ ?_
              exact .mk (vb_eq (by rw [eqB_f (hne (by simp [h4]))])) trivial
          · have g3 : (((en.toNat : Int)) != (en'.toNat : Int)) = true := u32_ne h3
            have gB : (bif (bif ek != ek' then true else eo != eo') then true else ((en.toNat : Int)) != (en'.toNat : Int)) = true := by rw [gA, g3]; rfl
            refine go_ ?_
            refine ev_ ?_
            exact .mk (vb_eq (by rw [eqB_f (hne (by simp [h3]))])) trivial
        · have g2 : (eo != eo') = true := by simpa using h2
          have gA : (bif ek != ek' then true else eo != eo') = true := by rw [g1, g2]; rfl
          refine go_ ?_
          refine ev_ ?_
          exact .mk (vb_eq (by rw [eqB_f (hne (by simp [h2]))])) trivial
      · have g1 : (ek != ek') = true := by simpa using h1
        refine go_ ?_
        refine ev_ ?_
        exact .mk (vb_eq (by rw [eqB_f (hne (by simp [h1]))])) trivial
    have hj' : j = l.length := by have := of_decide_eq_false hb; rw [exsC_len] at this; omega
    subst hj'
    refine go_ ?_
    refine ev_ ?_
    exact .mk (vb_eq (by rw [eqB_t (all_eq hll ht)])) trivial
  · have g0 : (((exsC l).length : Int) != ((exsC l').length : Int)) = true := by rw [exsC_len, exsC_len]; simp; omega
    refine spec_of_bodyL CX_mixed CX_gpk Tryd.func39 rfl 57 0 rfl rfl rfl rfl ?_
    refine go_ ?_
    refine ev_ ?_
    exact .mk (vb_eq (by rw [eqB_f (fun e => hll (by rw [e]))])) trivial
theorem tellsE_ok : ∀ (d : Nat) (l : List Ex), l.length ≤ 1000000 → (∀ e ∈ l, okE d e) → TellsE l
  | 0, l, hl, h => s_sameExprs l hl fun k o n s ks hm => (h _ hm).elim
  | d + 1, l, hl, h => s_sameExprs l hl fun k o n s ks hm => by
    have := h _ hm
    exact tellsE_ok d ks (by have := this.1; omega) this.2.2.2.2
end Go.Proofs.YtddggjmfplohkaaDoor
