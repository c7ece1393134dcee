import Derived.Test.YtjokaennipmmaaaDoorQuoN
/- Who agrees: quorum.Who, whole. -/
namespace Go.Proofs.YtjokaennipmmaaaDoor
open Go.RowKit
set_option linter.unnecessarySimpa false
set_option maxRecDepth 100000 in
set_option maxHeartbeats 2000000 in
theorem s_who (bs : List D) (need : Int) (msg : D) (l : List Sd) (hb : bs.length ≤ 1000000) (hl : l.length ≤ 1000000) (hs : ∀ s ∈ l, s.2.2.2.length ≤ 1000000) : Spec (Ctx.mk Tryd.prog globX (0 + 1) Places) 17 [.agg (polP bs need), .agg (dP msg), .sl .any (sdsP l)] [] (.sl .any (isP (whoE bs msg l))) [] := by
  have hlen := dsP_len bs
  have hlen' := sdsP_len l
  show Spec _ _ _ _ (.sl .any (isP (whoUp bs msg l bs.length))) _
  refine spec_of_bodyL CX_mixed CX_gpk Tryd.func17 rfl 52 0 rfl rfl rfl rfl ?_
  refine goto_ 1 ?_
  repeat (first | with_reducible apply c_seq | with_reducible apply c_reg)
  with_reducible apply run_y
  exact want_
  · intro K hK
    conv => whnf
    refine Or.inr ?_
    refine ev_ ?_
    exact hK
  refine goto_ 2 ?_
  refine c_seq_cut (fun q m h => ∃ (gs : List Gp) (m0 : Nat), GsAt l gs l.length m0 ∧ q = [.top, .top, .top, .ptr 1 0, .ptr 2 0, .ptr 3 0, .sl .full [], .ptr 5 0] ++ List.replicate 44 .top ∧ m = 6 ∧ h = [(1, .cells (polP bs need)), (2, .cells (dP msg)), (3, .cells [.sl .any (sdsP l)]), (4, .mp (byD gs)), (5, .cells [.mp 4])]) ?_ ?_
  rotate_left
  · rintro q m h hlen2 ⟨gs, m0, hg, rfl, rfl, rfl⟩
    clear hlen2
    refine go_ ?_
    refine c_loop (fun f q m h => ∃ (i : Nat) (κ : K) (kn : List D), i ≤ bs.length ∧ f = bs.length - i ∧ q = [.top, .top, .top, .ptr 1 0, .ptr 2 0, .ptr 3 0, .sl .full [], .ptr 5 0, .top, .top, .ptr 7 0, .clo 22 [.ptr 7 0, .ptr 5 0, .ptr 2 0, .ptr 3 0], .sl κ (isP (whoUp bs msg l i))] ++ List.replicate 23 .top ++ [.sl .any (dsP bs), .v (.int .i64 ((dsP bs).length : Int)), .v (.int .i64 (i : Int))] ++ List.replicate 13 .top ∧
        ((whoUp bs msg l i = [] ∧ κ = .full ∧ m = 8 ∧ h = [(1, .cells (polP bs need)), (2, .cells (dP msg)), (3, .cells [.sl .any (sdsP l)]), (4, .mp (byD gs)), (5, .cells [.mp 4]), (6, .mp (knP msg l kn)), (7, .cells [.mp 6])]) ∨
         (κ = .own 10 ∧ m = 11 ∧ h = [(1, .cells (polP bs need)), (2, .cells (dP msg)), (3, .cells [.sl .any (sdsP l)]), (4, .mp (byD gs)), (5, .cells [.mp 4]), (6, .mp (knP msg l kn)), (7, .cells [.mp 6]), (10, .row (isP (whoUp bs msg l i)).length 3)])))
      ⟨_, _, _, _, ?_, ?_, ⟨0, .full, [], Nat.zero_le _, rfl, rfl, .inl ⟨rfl, rfl, rfl, rfl⟩⟩⟩ ?_
    · rfl
    · skip
      exact sub_
    · rintro f q m h hlen2 ⟨i, κ, kn, hi, rfl, rfl, hc⟩
      clear hlen2
      by_cases h1 : i < bs.length
      · have g1 : decide ((i : Int) < ((dsP bs).length : Int)) = true := decide_eq_true (by rw [hlen]; omega)
        have hw : IntKind.i64.wrap ((i : Int) + 1) = ((i + 1 : Nat) : Int) := by rw [wrap64 (by omega) (by omega)]; omega
        have hup := whoUp_len bs msg l i
        have hyes := whoUp_yes (bs := bs) (msg := msg) (l := l) (i := i)
        have hno := whoUp_no (bs := bs) (msg := msg) (l := l) (i := i)
        rcases hc with ⟨h0, rfl, rfl, rfl⟩ | ⟨rfl, rfl, rfl⟩
        · have hask := s_askA bs need msg (bs.getD i D.zero) l gs m0 kn hg hl hs
          refine goto_ 13 ?_
          with_reducible apply c_seq
          with_reducible apply c_regI
          with_reducible apply runI_y
          exact want_
          exact step_
          with_reducible apply runI_y
          exact want_
          exact step_
          refine runI_inl _ _ _ want_ (by (conv => whnf); exact ⟨by kernel_rfl, rfl, rfl⟩) rfl rfl hask ?_
          rintro p m' h' ⟨kn', rfl, rfl, rfl⟩
          simp only [putL, setL, List.replicate_succ, List.replicate_zero]
          with_reducible apply runI_end
          cases e1 : agreesE (bs.getD i D.zero) msg l
          · replace hno := hno e1
            refine go_ ?_
            rw [hw]
            refine c_round ⟨_, _, _, _, ?_, ?_, ?_, ⟨i + 1, .full, kn', h1, rfl, by rw [hno], .inl ⟨hno.trans h0, rfl, rfl, rfl⟩⟩⟩
            · omega
            · rfl
            · skip
              exact sub_
          · replace hyes := hyes e1
            rw [h0] at hyes ⊢
            refine go_ ?_
            with_reducible apply run_y
            exact want_
            · intro K hK
              refine ev_ ?_
              refine ⟨isP ([] ++ [i]), isP_app [] [i], appOk_is (l := []) (l' := [i]) rfl rfl rfl (by simp), ?_⟩
              conv => whnf
              refine Or.inl ?_
              refine ev_ ?_
              exact hK
            refine go_ ?_
            rw [hw]
            refine c_round ⟨_, _, _, _, ?_, ?_, ?_, ⟨i + 1, .own 10, kn', h1, rfl, by rw [hyes], .inr ⟨rfl, rfl, by rw [hyes]⟩⟩⟩
            · omega
            · rfl
            · skip
              exact sub_
        · have hask := s_askB bs need msg (bs.getD i D.zero) l gs m0 kn (whoUp bs msg l i) hg hl hs
          refine goto_ 13 ?_
          with_reducible apply c_seq
          with_reducible apply c_regI
          with_reducible apply runI_y
          exact want_
          exact step_
          with_reducible apply runI_y
          exact want_
          exact step_
          refine runI_inl _ _ _ want_ (by (conv => whnf); exact ⟨by kernel_rfl, rfl, rfl⟩) rfl rfl hask ?_
          rintro p m' h' ⟨kn', rfl, rfl, rfl⟩
          simp only [putL, setL, List.replicate_succ, List.replicate_zero]
          with_reducible apply runI_end
          cases e1 : agreesE (bs.getD i D.zero) msg l
          · replace hno := hno e1
            refine go_ ?_
            rw [hw]
            refine c_round ⟨_, _, _, _, ?_, ?_, ?_, ⟨i + 1, .own 10, kn', h1, rfl, by rw [hno], .inr ⟨rfl, rfl, by rw [hno]⟩⟩⟩
            · omega
            · rfl
            · skip
              exact sub_
          · replace hyes := hyes e1
            refine go_ ?_
            with_reducible apply run_y
            exact want_
            · intro K hK
              refine ev_ ?_
              refine ⟨isP (whoUp bs msg l i ++ [i]), isP_app _ [i], appOk_is (l' := [i]) rfl rfl rfl (by simp; omega), ?_⟩
              refine ev_ ?_
              exact hK
            refine go_ ?_
            rw [hw]
            refine c_round ⟨_, _, _, _, ?_, ?_, ?_, ⟨i + 1, .own 10, kn', h1, rfl, by rw [hyes], .inr ⟨rfl, rfl, by rw [hyes]⟩⟩⟩
            · omega
            · rfl
            · skip
              exact sub_
      · have hil : i = bs.length := by omega
        subst hil
        have g1 : decide (((bs.length : Nat) : Int) < ((dsP bs).length : Int)) = false := decide_eq_false (by rw [hlen]; omega)
        rcases hc with ⟨h0, rfl, rfl, rfl⟩ | ⟨rfl, rfl, rfl⟩
        · skip
          refine go_ ?_
          refine ev_ ?_
          exact .mk (by rfl) trivial
        · skip
          refine go_ ?_
          refine ev_ ?_
          exact .mk (by rfl) trivial
  refine go_ ?_
  refine c_loop (fun f q m h => ∃ (k : Nat) (gs : List Gp) (m0 : Nat), k ≤ l.length ∧ GsAt l gs k m0 ∧ f = l.length - k ∧ q = [.top, .top, .top, .ptr 1 0, .ptr 2 0, .ptr 3 0, .sl .full [], .ptr 5 0] ++ List.replicate 8 .top ++ [.sl .any (sdsP l), .v (.int .i64 ((sdsP l).length : Int)), .v (.int .i64 (k : Int))] ++ List.replicate 33 .top ∧ m = m0 + 6 ∧
      h = (1, .cells (polP bs need)) :: (2, .cells (dP msg)) :: (3, .cells [.sl .any (sdsP l)]) :: (4, .mpo (byM gs)) :: (5, .cells [.mp 4]) :: rowsR gs)
    ⟨_, _, _, _, ?_, ?_, ⟨0, [], 0, Nat.zero_le _, .zero l, rfl, rfl, rfl, rfl⟩⟩ ?_
  · rfl
  · skip
    exact sub_
  · rintro f q m h hlen2 ⟨k, gs, m0, hk, hg, rfl, rfl, rfl, rfl⟩
    clear hlen2
    by_cases h1 : k < l.length
    · have g1 : decide ((k : Int) < ((sdsP l).length : Int)) = true := decide_eq_true (by rw [hlen']; omega)
      have hat := sdsP_at h1
      have hne := rowsR_ne hg.lt
      have hw : IntKind.i64.wrap ((k : Int) + 1) = ((k + 1 : Nat) : Int) := by rw [wrap64 (by omega) (by omega)]; omega
      generalize hsk : l.getD k zeroSd = s at *
      obtain ⟨sb, si, so, sp⟩ := s
      refine go_ ?_
      with_reducible apply run_y
      exact want_
      · intro K hK
        refine ev_ ?_
        refine ⟨k, _, rfl, hat, rfl, ?_⟩
        refine ev_ ?_
        exact hK
      refine go_ ?_
      with_reducible apply run_y
      exact want_
      · intro K hK
        conv => whnf
        refine And.intro (by kernel_rfl) (Or.inl ?_)
        conv => whnf
        refine insL_new hne ?_
        refine ev_ ?_
        exact hK
      refine go_ ?_
      with_reducible apply run_y
      exact want_
      · intro K hK
        conv => whnf
        rw [hp5, look_new hne]
        conv => whnf
        refine And.intro (by omega) (And.intro rfl (And.intro (by decide) (And.intro rfl ?_)))
        conv => whnf
        refine insL_last (c' := .cells (sdP (sb, si, so, sp))) hne ?_
        refine ev_ ?_
        exact hK
      refine go_ ?_
      with_reducible apply run_y
      exact want_
      · intro K hK
        conv => whnf
        rw [hp5, look_new hne]
        refine And.intro (by omega) (part_sd (sb, si, so, sp) ?_)
        refine ev_ ?_
        exact hK
      refine go_ ?_
      have hfind := mapFind_D sb (gs.map fun g => (g.1, PV.sl (.own (g.2.1 + 6)) (isP g.2.2)))
      cases hf : (gs.map fun g => (g.1, PV.sl (.own (g.2.1 + 6)) (isP g.2.2))).findIdx? (fun p => decide (sb = p.1)) with
      | none =>
        rw [hf] at hfind
        have hne2 : ∀ c : HC, ∀ p ∈ rowsR gs ++ [(m0 + 6, c)], p.1 ≠ m0 + 6 + 1 := fun c p hp => by
          rcases List.mem_append.1 hp with hp | hp
          · obtain ⟨g, hg2, rfl⟩ := List.mem_map.1 hp
            have := hg.lt g hg2
            show g.2.1 + 6 ≠ m0 + 6 + 1
            omega
          · obtain rfl := List.mem_singleton.1 hp
            show m0 + 6 ≠ m0 + 6 + 1
            omega
        have hno : ∀ g ∈ gs, g.1 ≠ sb := fun g hg2 e => by
          have h2 := List.findIdx?_eq_none_iff.1 hf (g.1, PV.sl (.own (g.2.1 + 6)) (isP g.2.2)) (List.mem_map.2 ⟨g, hg2, rfl⟩)
          simp only [decide_eq_false_iff_not] at h2
          exact h2 e.symm
        have hnew := hg.newKey (by rw [hsk]; exact hno)
        rw [hsk] at hnew
        have hbl : (byM gs).length = gs.length := by unfold byM mdP; simp
        have hbn := byM_new gs sb (m0 + 1) k (.sl .full [])
        have hgl : (byM gs ++ [(PV.agg (dP sb), PV.sl .full [])])[gs.length]? = some (PV.agg (dP sb), PV.sl .full []) := by
          rw [← hbl, List.getElem?_append_right (Nat.le_refl _)]; simp
        with_reducible apply run_y
        exact want_
        · intro K hK
          refine ev_ ?_
          refine ⟨_, none, dP_flat sb, hfind, ?_⟩
          refine ev_ ?_
          exact hK
        conv =>
          pattern (HC.mpo (_ ++ _))
          change HC.mpo (byM gs ++ [(PV.agg (dP sb), PV.sl .full [])])
        rw [hbl]
        refine go_ ?_
        with_reducible apply run_y
        exact want_
        · intro K hK
          refine ev_ ?_
          refine ⟨isP ([] ++ [k]), isP_app [] [k], appOk_is (l := []) (l' := [k]) rfl rfl rfl (by simp), ?_⟩
          conv => whnf
          refine Or.inl ?_
          conv => whnf
          refine insL_new (hne2 _) ?_
          refine ev_ ?_
          exact hK
        refine go_ ?_
        with_reducible apply run_y
        exact want_
        · intro K hK
          refine ev_ ?_
          refine ⟨gs.length, _, _, rfl, hgl, ?_⟩
          refine ev_ ?_
          exact hK
        conv =>
          pattern (HC.mpo (List.set _ _ _))
          change HC.mpo ((byM gs ++ [(PV.agg (dP sb), PV.sl .full [])]).set gs.length (PV.agg (dP sb), PV.sl (.own (m0 + 1 + 6)) (isP [k])))
        rw [hbn]
        refine go_ ?_
        rw [hw]
        refine c_round ⟨_, _, _, _, ?_, ?_, ?_, ⟨k + 1, _, m0 + 2, h1, hnew, rfl, rfl, rfl, rfl⟩⟩
        · omega
        · rfl
        · refine subR ?_ rfl rfl rfl rfl rfl rfl rfl rfl rfl rfl rfl (fun g hg2 => ?_) hnew.lt
          · conv => whnf
            all_goals (repeat (first | exact trivial | (refine And.intro (by ((conv => lhs; whnf) <;> first | with_reducible rfl | assumption | (refine val64 ?_ ?_ <;> omega) | rfl)) ?_; conv => whnf)))
          · rw [hp5]
            rcases List.mem_append.1 hg2 with hg2 | hg2
            · rw [look_app (by rw [List.map_append]; exact List.mem_append_left _ (mem_keys hg2)), look_app (mem_keys hg2)]
              exact look_rows hg.nd hg2
            · obtain rfl := List.mem_singleton.1 hg2
              exact look_new (hne2 _)
      | some j =>
        rw [hf] at hfind
        obtain ⟨hj0, hjd, -⟩ := List.findIdx?_eq_some_iff_getElem.1 hf
        have hj : j < gs.length := by simpa using hj0
        have hjk : gs[j].1 = sb := by
          have := of_decide_eq_true hjd
          simpa using this.symm
        have hold := hg.oldKey hj (by rw [hsk]; exact hjk)
        have hbo := byM_old (k := k) hj
        have hba := byM_at hj
        have hrow := look_rows hg.nd (List.getElem_mem hj)
        have hmk := mem_keys (List.getElem_mem hj)
        have hlen3 : gs[j].2.2.length ≤ k := by
          rw [hg.idx _ (List.getElem_mem hj)]
          unfold placesE
          have := List.length_filter_le (fun i => decide ((l.getD i zeroSd).1 = gs[j].1)) (List.range k)
          rwa [List.length_range] at this
        have hset : ∀ c : HC, (rowsR gs ++ [(m0 + 6, c)]).set j (gs[j].2.1 + 6, HC.row (isP (gs[j].2.2 ++ [k])).length 3) = rowsR (gs.set j (gs[j].1, gs[j].2.1, gs[j].2.2 ++ [k])) ++ [(m0 + 6, c)] := fun c => by
          rw [List.set_append_left (h := by unfold rowsR; rw [List.length_map]; exact hj)]
          unfold rowsR
          rw [List.map_set]
        have hnd2 : ∀ c : HC, ((rowsR gs ++ [(m0 + 6, c)]).map (·.1)).Nodup := fun c => by
          rw [List.map_append, List.nodup_append]
          refine ⟨rowsR_nodup hg.nd, by simp, fun a ha b hb e => ?_⟩
          obtain ⟨p, hp, rfl⟩ := List.mem_map.1 ha
          simp at hb
          exact hne p hp (e.trans hb)
        have hkj : ∀ c : HC, ∀ h : j < (rowsR gs ++ [(m0 + 6, c)]).length, ((rowsR gs ++ [(m0 + 6, c)])[j]'h).1 = gs[j].2.1 + 6 := fun c h => by
          rw [List.getElem_append_left (by unfold rowsR; rw [List.length_map]; exact hj)]
          simp [rowsR]
        have hjl : ∀ c : HC, j < (rowsR gs ++ [(m0 + 6, c)]).length := fun c => by
          rw [List.length_append]; unfold rowsR; rw [List.length_map]; simp; omega
        rw [hjk] at hold hbo hba hset
        generalize gs[j].2.1 = t at *
        generalize gs[j].2.2 = is at *
        have hga : ((byM gs).set j (PV.agg (dP sb), PV.sl (.own (t + 6)) (isP is)))[j]? = some (PV.agg (dP sb), PV.sl (.own (t + 6)) (isP is)) := List.getElem?_set_self (List.getElem?_eq_some_iff.1 hba).1
        with_reducible apply run_y
        exact want_
        · intro K hK
          refine ev_ ?_
          refine ⟨_, some j, dP_flat sb, hfind, _, _, hba, ?_⟩
          refine ev_ ?_
          exact hK
        conv =>
          pattern (HC.mpo (List.set _ _ _))
          change HC.mpo ((byM gs).set j (PV.agg (dP sb), PV.sl (.own (t + 6)) (isP is)))
        refine go_ ?_
        with_reducible apply run_y
        exact want_
        · intro K hK
          refine ev_ ?_
          refine ⟨isP (is ++ [k]), isP_app is [k], appOk_is (l := is) (l' := [k]) rfl rfl rfl (by simp; omega), ?_⟩
          conv => whnf
          refine And.intro (by omega) (And.intro (by rw [hp5, look_app hmk]; exact hrow) ?_)
          conv => whnf
          refine insL_at (j := j) (hjl _) (hkj _ _) (hnd2 _) ?_
          rw [hset]
          refine ev_ ?_
          exact hK
        refine go_ ?_
        with_reducible apply run_y
        exact want_
        · intro K hK
          refine ev_ ?_
          refine ⟨j, _, _, rfl, hga, ?_⟩
          refine ev_ ?_
          exact hK
        conv =>
          pattern (HC.mpo (List.set _ _ _))
          change HC.mpo (((byM gs).set j (PV.agg (dP sb), PV.sl (.own (t + 6)) (isP is))).set j (PV.agg (dP sb), PV.sl (.own (t + 6)) (isP (is ++ [k]))))
        rw [List.set_set, hbo]
        refine go_ ?_
        rw [hw]
        refine c_round ⟨_, _, _, _, ?_, ?_, ?_, ⟨k + 1, _, m0 + 1, h1, hold, rfl, rfl, rfl, rfl⟩⟩
        · omega
        · rfl
        · refine subR ?_ rfl rfl rfl rfl rfl rfl rfl rfl rfl rfl rfl (fun g hg2 => ?_) hold.lt
          · conv => whnf
            all_goals (repeat (first | exact trivial | (refine And.intro (by ((conv => lhs; whnf) <;> first | with_reducible rfl | assumption | (refine val64 ?_ ?_ <;> omega) | rfl)) ?_; conv => whnf)))
          · rw [hp5, look_app (mem_keys hg2)]
            exact look_rows hold.nd hg2
    · have hkl : k = l.length := by omega
      subst hkl
      have g1 : decide (((l.length : Nat) : Int) < ((sdsP l).length : Int)) = false := decide_eq_false (by rw [hlen']; omega)
      refine go_ ?_
      refine c_cut ⟨_, _, _, ?_, ?_, gs, m0, hg, rfl, rfl, rfl⟩
      · rfl
      · refine ⟨?_, ⟨rfl, rfl, rfl, ⟨byM_dem gs, byM_leaf gs⟩, rfl, trivial⟩, rfl⟩
        conv => whnf
        all_goals (repeat (first | exact trivial | (refine And.intro (by ((conv => lhs; whnf) <;> first | with_reducible rfl | assumption | (refine val64 ?_ ?_ <;> omega) | rfl)) ?_; conv => whnf)))
end Go.Proofs.YtjokaennipmmaaaDoor
