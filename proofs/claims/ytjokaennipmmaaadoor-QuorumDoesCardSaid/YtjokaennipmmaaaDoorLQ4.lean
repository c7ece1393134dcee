import Derived.Test.YtjokaennipmmaaaDoorLQ3
/- The law QuorumMore. -/
namespace Go.Proofs.YtjokaennipmmaaaDoor
open Go.RowKit
set_option linter.unnecessarySimpa false
theorem sdsP_app (l l' : List Sd) : sdsP l ++ sdsP l' = sdsP (l ++ l') := by simp [sdsP]
theorem appOk_sds {zs sz by_ : Nat} {l l' : List Sd} (hz : zs = 7) (hs : sz = 7) (hb : by_ = 72) (h : l.length + l'.length ≤ 1000000000) : AppOk zs sz by_ (sdsP l) (sdsP l') := by
  subst hz hs hb
  exact ⟨rfl, by omega, sdsP_wide l, sdsP_wide l', by rw [sdsP_len, sdsP_len]; simp only [maxLen]; omega, by rw [sdsP_len, sdsP_len]; omega⟩
/-- The last j signatures, the last one ahead, each twice. -/
def dblE (l : List Sd) : Nat → List Sd
  | 0 => []
  | j + 1 => dblE l j ++ [l.getD (l.length - 1 - j) zeroSd, l.getD (l.length - 1 - j) zeroSd]
theorem dblE_len (l : List Sd) : ∀ j, (dblE l j).length = 2 * j
  | 0 => rfl
  | j + 1 => by
    unfold dblE
    rw [List.length_append, dblE_len l j]; simp; omega
theorem dblE_in (l : List Sd) : ∀ j, j ≤ l.length → ∀ s ∈ dblE l j, s ∈ l
  | 0, _, s, h => by cases h
  | j + 1, hj, s, h => by
    unfold dblE at h
    rcases List.mem_append.1 h with h | h
    · exact dblE_in l j (by omega) s h
    · have : s = l.getD (l.length - 1 - j) zeroSd := by
        simp only [List.mem_cons, List.not_mem_nil, or_false, or_self] at h
        exact h
      rw [this]
      exact sd_mem (by omega)
theorem dblE_all (l : List Sd) : ∀ j i, i < j → l.getD (l.length - 1 - i) zeroSd ∈ dblE l j
  | 0, i, h => by omega
  | j + 1, i, h => by
    unfold dblE
    by_cases e : i = j
    · subst e; exact List.mem_append_right _ (by simp)
    · exact List.mem_append_left _ (dblE_all l j i (by omega))
theorem dblE_same (l : List Sd) (s : Sd) : s ∈ l ↔ s ∈ dblE l l.length := by
  constructor
  · intro h
    obtain ⟨i, hi, rfl⟩ := List.mem_iff_getElem.1 h
    have := dblE_all l l.length (l.length - 1 - i) (by omega)
    rw [show l.length - 1 - (l.length - 1 - i) = i by omega] at this
    rwa [show l.getD i zeroSd = l[i] by rw [List.getD_eq_getElem?_getD, List.getElem?_eq_getElem hi]; rfl] at this
  · exact dblE_in l l.length (Nat.le_refl _) s
theorem sub_step' {a b : List Nat} {i k : Nat} (h : (a.drop k).Sublist (b.drop i)) (hi : i < b.length) (hk : k < a.length) (he : b.getD i 0 = a.getD k 0) : (a.drop (k + 1)).Sublist (b.drop (i + 1)) := by
  have := sub_step h hi hk
  rwa [if_pos he] at this
theorem sub_step'' {a b : List Nat} {i k : Nat} (h : (a.drop k).Sublist (b.drop i)) (hi : i < b.length) (hk : k < a.length) (he : b.getD i 0 ≠ a.getD k 0) : (a.drop k).Sublist (b.drop (i + 1)) := by
  have := sub_step h hi hk
  rwa [if_neg he] at this
set_option maxRecDepth 100000 in
set_option maxHeartbeats 8000000 in
theorem s_quorumMore (bs : List D) (need : Int) (msg : D) (l more : List Sd) : Spec (Ctx.mk Tryd.prog globX (0 + 1) Places) 6 [.agg (askP bs need msg l), .sl .any (sdsP more)] [] (.v (.bool true)) [] := by
  have q0 := s_small45 bs need msg l
  have q1 := s_small45 [] 0 D.zero more
  refine spec_of_bodyL CX_mixed CX_gpk Tryd.func6 rfl 131 0 rfl rfl rfl rfl ?_
  refine go_ ?_
  with_reducible apply run_y
  exact want_
  · intro K hK
    refine ev_ ?_
    refine vcCall_plain (q0) (by kernel_rfl) ?_
    refine ev_ ?_
    exact hK
  refine go_ ?_
  cases hsm : smE bs l
  case false =>
    refine go_ ?_
    with_reducible apply run_y
    exact want_
    · intro K hK
      refine ev_ ?_
      refine vcCall_plain (s_awake45) (by kernel_rfl) ?_
      refine ev_ ?_
      exact hK
    refine go_ ?_
    refine ev_ ?_
    exact .mk (by rfl) trivial
  case true =>
    obtain ⟨h1, h2, h3⟩ := sm_spec hsm
    refine go_ ?_
    with_reducible apply run_y
    exact want_
    · intro K hK
      refine ev_ ?_
      refine vcCall_plain (q1) (by kernel_rfl) ?_
      refine ev_ ?_
      exact hK
    refine go_ ?_
    cases hsm2 : smE [] more
    case false =>
      refine go_ ?_
      with_reducible apply run_y
      exact want_
      · intro K hK
        refine ev_ ?_
        refine vcCall_plain (s_awake45) (by kernel_rfl) ?_
        refine ev_ ?_
        exact hK
      refine go_ ?_
      refine ev_ ?_
      exact .mk (by rfl) trivial
    case true =>
      obtain ⟨-, h4, h5⟩ := sm_spec hsm2
      have w1 := s_who bs need msg l (by omega) (by omega) h3
      have w2 := s_who bs need msg (dblE l l.length) (by omega) (by rw [dblE_len]; omega) (fun s hs => h3 s ((dblE_same l s).2 hs))
      rw [← whoE_congr (bs := bs) (msg := msg) (dblE_same l)] at w2
      have w3 := s_who bs need msg ([] ++ more ++ l) (by omega) (by simp; omega) (fun s hs => by
        simp only [List.nil_append, List.mem_append] at hs
        rcases hs with hs | hs
        · exact h5 s hs
        · exact h3 s hs)
      have o1 := s_qholds bs need msg l (by omega) (by omega) h3
      have o2 := s_qholds bs need msg ([] ++ l ++ more) (by omega) (by simp; omega) (fun s hs => by
        simp only [List.nil_append, List.mem_append] at hs
        rcases hs with hs | hs
        · exact h3 s hs
        · exact h5 s hs)
      have hsub := whoE_sub (bs := bs) (msg := msg) (l := l) (l' := [] ++ more ++ l) (fun s hs => by simp [hs])
      have hmore := holdsE_more (bs := bs) (need := need) (msg := msg) (l := l) (l' := [] ++ l ++ more) (fun s hs => by simp [hs])
      have hla := who_len bs msg l
      have hlc := who_len bs msg ([] ++ more ++ l)
      generalize whoE bs msg l = a at *
      generalize whoE bs msg ([] ++ more ++ l) = c at *
      have hca := hsub.length_le
      have j1 := s_ints a a (by omega)
      rw [decide_eq_true rfl] at j1
      generalize holdsE bs need msg ([] ++ l ++ more) = y at *
      generalize holdsE bs need msg l = x at *
      have hn1 : IntKind.i64.wrap (((sdsP l).length : Int) - 1) = (l.length : Int) - 1 - ((0 : Nat) : Int) := by rw [sdsP_len, wrap64 (by omega) (by omega)]; omega
      refine go_ ?_
      rw [hn1]
      refine c_loop (fun f q m h => ∃ (j : Nat) (κ : K), j ≤ l.length ∧ f = l.length - j ∧ q = [.top, .sl .any (sdsP more), .ptr 1 0, .top, .v (.bool false), .sl κ (sdsP (dblE l j)), .v (.int .i64 ((l.length : Int) - 1 - (j : Int)))] ++ List.replicate 124 .top ∧
          ((j = 0 ∧ κ = .full ∧ m = 2 ∧ h = [(1, .cells (askP bs need msg l))]) ∨ (κ = .own 2 ∧ m = 3 ∧ h = [(1, .cells (askP bs need msg l)), (2, .row (sdsP (dblE l j)).length 43)])))
        ⟨_, _, _, _, ?_, ?_, ⟨0, .full, Nat.zero_le _, rfl, rfl, .inl ⟨rfl, rfl, rfl, rfl⟩⟩⟩ ?_
      · rfl
      · skip
        exact sub_
      · rintro f q m h hlen2 ⟨j, κ, hj, rfl, rfl, hc⟩
        clear hlen2
        by_cases hjl : j < l.length
        · have g1 : decide ((l.length : Int) - 1 - (j : Int) ≥ 0) = true := decide_eq_true (by omega)
          have hx : (l.length : Int) - 1 - (j : Int) = ((l.length - 1 - j : Nat) : Int) := by omega
          have hw : IntKind.i64.wrap ((l.length : Int) - 1 - (j : Int) - 1) = (l.length : Int) - 1 - ((j + 1 : Nat) : Int) := by rw [wrap64 (by omega) (by omega)]; omega
          have hat := sdsP_at (l := l) (j := l.length - 1 - j) (by omega)
          have hdb : dblE l (j + 1) = dblE l j ++ [l.getD (l.length - 1 - j) zeroSd, l.getD (l.length - 1 - j) zeroSd] := rfl
          have hdl := dblE_len l j
          generalize l.getD (l.length - 1 - j) zeroSd = s at *
          obtain ⟨sb, si, so, sp⟩ := s
          rcases hc with ⟨rfl, rfl, rfl, rfl⟩ | ⟨rfl, rfl, rfl⟩
          · replace hdb : dblE l (0 + 1) = [] ++ [(sb, si, so, sp), (sb, si, so, sp)] := hdb
            refine go_ ?_
            with_reducible apply run_y
            exact want_
            · intro K hK
              refine ev_ ?_
              refine ⟨l.length - 1 - 0, _, hx, hat, rfl, ?_⟩
              refine ev_ ?_
              exact hK
            refine go_ ?_
            with_reducible apply run_y
            exact want_
            · intro K hK
              refine ev_ ?_
              refine ⟨l.length - 1 - 0, _, hx, hat, rfl, ?_⟩
              refine ev_ ?_
              exact hK
            refine go_ ?_
            with_reducible apply run_y
            exact want_
            · intro K hK
              refine ev_ ?_
              refine ⟨sdsP ([] ++ [(sb, si, so, sp), (sb, si, so, sp)]), sdsP_app [] [(sb, si, so, sp), (sb, si, so, sp)], appOk_sds (l := []) (l' := [(sb, si, so, sp), (sb, si, so, sp)]) rfl rfl rfl (by simp), ?_⟩
              conv => whnf
              refine Or.inl ?_
              refine ev_ ?_
              exact hK
            refine go_ ?_
            rw [hw]
            refine c_round ⟨_, _, _, _, ?_, ?_, ?_, ⟨0 + 1, .own 2, by omega, rfl, by rw [hdb], .inr ⟨rfl, rfl, by rw [hdb]⟩⟩⟩
            · omega
            · rfl
            · skip
              exact sub_
          · skip
            refine go_ ?_
            with_reducible apply run_y
            exact want_
            · intro K hK
              refine ev_ ?_
              refine ⟨l.length - 1 - j, _, hx, hat, rfl, ?_⟩
              refine ev_ ?_
              exact hK
            refine go_ ?_
            with_reducible apply run_y
            exact want_
            · intro K hK
              refine ev_ ?_
              refine ⟨l.length - 1 - j, _, hx, hat, rfl, ?_⟩
              refine ev_ ?_
              exact hK
            refine go_ ?_
            with_reducible apply run_y
            exact want_
            · intro K hK
              refine ev_ ?_
              refine ⟨sdsP (dblE l j ++ [(sb, si, so, sp), (sb, si, so, sp)]), sdsP_app _ [(sb, si, so, sp), (sb, si, so, sp)], appOk_sds (l' := [(sb, si, so, sp), (sb, si, so, sp)]) rfl rfl rfl (by simp; omega), ?_⟩
              refine ev_ ?_
              exact hK
            refine go_ ?_
            rw [hw]
            refine c_round ⟨_, _, _, _, ?_, ?_, ?_, ⟨j + 1, .own 2, by omega, rfl, by rw [hdb], .inr ⟨rfl, rfl, by rw [hdb]⟩⟩⟩
            · omega
            · rfl
            · skip
              exact sub_
        · have hje : j = l.length := by omega
          subst hje
          have g1 : decide ((l.length : Int) - 1 - ((l.length : Nat) : Int) ≥ 0) = false := decide_eq_false (by omega)
          refine goto_ 8 ?_
          refine c_seq_cut (fun q m h => q = [.top, .sl .any (sdsP more), .ptr 1 0, .top, .v (.bool false), .top, .top, .sl .any (isP a), .sl .any (isP a)] ++ List.replicate 122 .top ∧ m = 2 ∧ h = [(1, .cells (askP bs need msg l))]) ?_ ?_
          · rcases hc with ⟨h0, rfl, rfl, rfl⟩ | ⟨rfl, rfl, rfl⟩
            · skip
              refine go_ ?_
              with_reducible apply run_y
              exact want_
              · intro K hK
                refine ev_ ?_
                refine vcCall_plain (w1) (by kernel_rfl) ?_
                refine ev_ ?_
                exact hK
              refine go_ ?_
              with_reducible apply run_y
              exact want_
              · intro K hK
                refine ev_ ?_
                refine vcCall_plain (w2) (by kernel_rfl) ?_
                refine ev_ ?_
                exact hK
              refine go_ ?_
              refine c_cut ⟨_, _, _, ?_, ?_, rfl, rfl, rfl⟩
              · rfl
              · exact sub_
            · skip
              refine go_ ?_
              with_reducible apply run_y
              exact want_
              · intro K hK
                refine ev_ ?_
                refine vcCall_plain (w1) (by kernel_rfl) ?_
                refine ev_ ?_
                exact hK
              refine go_ ?_
              with_reducible apply run_y
              exact want_
              · intro K hK
                refine ev_ ?_
                refine vcCall_plain (w2) (by kernel_rfl) ?_
                refine ev_ ?_
                exact hK
              refine go_ ?_
              refine c_cut ⟨_, _, _, ?_, ?_, rfl, rfl, rfl⟩
              · rfl
              · exact sub_
          clear hc
          rintro q m h hlen ⟨rfl, rfl, rfl⟩
          clear hlen
          have g2 : decide (((isP c).length : Int) < ((isP a).length : Int)) = false := decide_eq_false (by rw [isP_len, isP_len]; omega)
          refine go_ ?_
          with_reducible apply run_y
          exact want_
          · intro K hK
            refine ev_ ?_
            refine ⟨sdsP ([] ++ more), sdsP_app [] more, appOk_sds (l := []) (l' := more) rfl rfl rfl (by simp; omega), ?_⟩
            conv => whnf
            refine Or.inl ?_
            refine ev_ ?_
            exact hK
          refine go_ ?_
          with_reducible apply run_y
          exact want_
          · intro K hK
            refine ev_ ?_
            refine ⟨sdsP ([] ++ more ++ l), sdsP_app _ l, appOk_sds (l := [] ++ more) (l' := l) rfl rfl rfl (by simp; omega), ?_⟩
            refine ev_ ?_
            exact hK
          refine go_ ?_
          with_reducible apply run_y
          exact want_
          · intro K hK
            refine ev_ ?_
            refine vcCall_plain (w3) (by kernel_rfl) ?_
            refine ev_ ?_
            exact hK
          refine go_ ?_
          with_reducible apply run_y
          exact want_
          · intro K hK
            refine ev_ ?_
            refine vcCall_plain (j1) (by kernel_rfl) ?_
            refine ev_ ?_
            exact hK
          refine go_ ?_
          rw [g2]
          refine go_ ?_
          refine c_loop (fun f q m h => ∃ (i k : Nat), i ≤ c.length ∧ k ≤ a.length ∧ (a.drop k).Sublist (c.drop i) ∧ f = c.length - i ∧ q = [.top, .sl .any (sdsP more), .ptr 1 0, .top, .v (.bool false), .top, .top, .sl .any (isP a), .top, .sl .any (isP c), .v (.int .i64 (k : Int)), .v (.int .i64 (i : Int))] ++ List.replicate 119 .top ∧ m = 2 ∧ h = [(1, .cells (askP bs need msg l))])
            ⟨_, _, _, _, ?_, ?_, ⟨0, 0, Nat.zero_le _, Nat.zero_le _, hsub, rfl, rfl, rfl, rfl⟩⟩ ?_
          · rfl
          · skip
            exact sub_
          · rintro f q m h hlen2 ⟨i, k, hi, hk, hs, rfl, rfl, rfl, rfl⟩
            clear hlen2
            by_cases hik : i < c.length ∧ k < a.length
            · obtain ⟨hic, hka⟩ := hik
              have g3 : decide ((i : Int) < ((isP c).length : Int)) = true := decide_eq_true (by rw [isP_len]; omega)
              have g4 : decide ((k : Int) < ((isP a).length : Int)) = true := decide_eq_true (by rw [isP_len]; omega)
              have hcd : (bif decide ((i : Int) < ((isP c).length : Int)) then decide ((k : Int) < ((isP a).length : Int)) else false) = true := by rw [g3, g4]; rfl
              have hw : IntKind.i64.wrap ((i : Int) + 1) = ((i + 1 : Nat) : Int) := by rw [wrap64 (by omega) (by omega)]; omega
              have hw2 : IntKind.i64.wrap ((k : Int) + 1) = ((k + 1 : Nat) : Int) := by rw [wrap64 (by omega) (by omega)]; omega
              have hatc := isP_at hic
              have hata := isP_at hka
              refine go_ ?_
              with_reducible apply run_y
              exact want_
              · intro K hK
                refine ev_ ?_
                refine ⟨i, _, rfl, hatc, rfl, ?_⟩
                refine ev_ ?_
                exact hK
              refine go_ ?_
              with_reducible apply run_y
              exact want_
              · intro K hK
                refine ev_ ?_
                refine ⟨k, _, rfl, hata, rfl, ?_⟩
                refine ev_ ?_
                exact hK
              refine go_ ?_
              cases g5 : (((c.getD i 0 : Nat) : Int) == ((a.getD k 0 : Nat) : Int))
              · have hne : c.getD i 0 ≠ a.getD k 0 := fun e => by rw [e] at g5; simp at g5
                refine go_ ?_
                rw [hw]
                refine c_round ⟨_, _, _, _, ?_, ?_, ?_, ⟨i + 1, k, hic, hk, sub_step'' hs hic hka hne, rfl, rfl, rfl, rfl⟩⟩
                · omega
                · rfl
                · skip
                  exact sub_
              · have he : c.getD i 0 = a.getD k 0 := by
                  have : ((c.getD i 0 : Nat) : Int) = ((a.getD k 0 : Nat) : Int) := by simpa using g5
                  exact Int.ofNat.inj this
                refine go_ ?_
                rw [hw, hw2]
                refine c_round ⟨_, _, _, _, ?_, ?_, ?_, ⟨i + 1, k + 1, hic, hka, sub_step' hs hic hka he, rfl, rfl, rfl, rfl⟩⟩
                · omega
                · rfl
                · skip
                  exact sub_
            · have hka : k = a.length := by
                by_cases e : i < c.length
                · omega
                · have : c.drop i = [] := List.drop_eq_nil_of_le (by omega)
                  rw [this] at hs
                  have := List.sublist_nil.1 hs
                  have := List.drop_eq_nil_iff.1 this
                  omega
              subst hka
              have g4 : decide (((a.length : Nat) : Int) < ((isP a).length : Int)) = false := decide_eq_false (by rw [isP_len]; omega)
              have hcd : (bif decide ((i : Int) < ((isP c).length : Int)) then decide (((a.length : Nat) : Int) < ((isP a).length : Int)) else false) = false := by rw [g4]; cases decide ((i : Int) < ((isP c).length : Int)) <;> rfl
              have g6 : (((a.length : Nat) : Int) == ((isP a).length : Int)) = true := by rw [isP_len]; simp
              cases g3 : decide ((i : Int) < ((isP c).length : Int))
              all_goals
                refine go_ ?_
                with_reducible apply run_y
                exact want_
                · intro K hK
                  refine ev_ ?_
                  refine vcCall_plain (s_awake45) (by kernel_rfl) ?_
                  refine ev_ ?_
                  exact hK
                refine go_ ?_
                rw [g6]
                refine go_ ?_
                with_reducible apply run_y
                exact want_
                · intro K hK
                  refine ev_ ?_
                  refine vcCall_plain (o1) (by kernel_rfl) ?_
                  refine ev_ ?_
                  exact hK
                refine go_ ?_
                cases x
                · skip
                  refine go_ ?_
                  refine ev_ ?_
                  exact .mk (vb_eq (by simp)) trivial
                · rw [hmore rfl] at o2
                  refine go_ ?_
                  with_reducible apply run_y
                  exact want_
                  · intro K hK
                    refine ev_ ?_
                    refine ⟨sdsP ([] ++ l), sdsP_app [] l, appOk_sds (l := []) (l' := l) rfl rfl rfl (by simp; omega), ?_⟩
                    conv => whnf
                    refine Or.inl ?_
                    refine ev_ ?_
                    exact hK
                  refine go_ ?_
                  with_reducible apply run_y
                  exact want_
                  · intro K hK
                    refine ev_ ?_
                    refine ⟨sdsP ([] ++ l ++ more), sdsP_app _ more, appOk_sds (l := [] ++ l) (l' := more) rfl rfl rfl (by simp; omega), ?_⟩
                    refine ev_ ?_
                    exact hK
                  refine go_ ?_
                  with_reducible apply run_y
                  exact want_
                  · intro K hK
                    refine ev_ ?_
                    refine vcCall_plain (o2) (by kernel_rfl) ?_
                    refine ev_ ?_
                    exact hK
                  refine go_ ?_
                  refine ev_ ?_
                  exact .mk (vb_eq (by simp)) trivial
theorem quorumMore_walk (q0 : PV) (v0 : Value) (q1 : PV) (v1 : Value) (w : World) (hP : Places w) (i0 : IsV (.st shAsk) q0) (r0 : Rep (allOf w) q0 v0) (i1 : IsV (.sl (.st shSd)) q1) (r1 : Rep (allOf w) q1 v1) : Calls Tryd.prog 6 #[v0, v1] w fun e w' => e = .returned (.bool true) ∧ Grow w w' := by
  obtain ⟨bs, need, msg, l, -, rfl⟩ := isV_Ask i0
  obtain ⟨es, -, he, rfl⟩ := i1
  obtain ⟨more, rfl⟩ := is_sds he
  exact walk_of (s_quorumMore bs need msg l more) hP (args2 r0 r1)
end Go.Proofs.YtjokaennipmmaaaDoor
