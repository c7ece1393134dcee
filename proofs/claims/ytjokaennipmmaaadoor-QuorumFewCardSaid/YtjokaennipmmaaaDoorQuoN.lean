import Derived.Test.YtjokaennipmmaaaDoorQuoM
/- Who agrees: the program's closure that asks of one builder, and remembers it, walked where it is called. -/
namespace Go.Proofs.YtjokaennipmmaaaDoor
open Go.RowKit
set_option linter.unnecessarySimpa false
def knP (msg : D) (l : List Sd) (kn : List D) : List (PV × PV) := mdP (kn.map fun d => (d, PV.v (.bool (agreesE d msg l))))
/-- What comes of asking: the answer, and that it is known. -/
inductive AskR (msg d : D) (l : List Sd) (M : Nat) (h1 h2 : List (Nat × HC)) (p : PV) (m : Nat) (h : List (Nat × HC)) : Prop
  | mk (kn : List D) (hp : p = .v (.bool (agreesE d msg l))) (hm : m = M) (hh : h = h1 ++ (6, .mp (knP msg l kn)) :: h2)
theorem known_at {msg d : D} {l : List Sd} {kn : List D} {j : Nat} (h : (kn.map fun d => (d, PV.v (.bool (agreesE d msg l)))).findIdx? (fun p => decide (d = p.1)) = some j) : j < kn.length ∧ (knP msg l kn)[j]? = some (.agg (dP d), .v (.bool (agreesE d msg l))) := by
  obtain ⟨hj0, hjd, -⟩ := List.findIdx?_eq_some_iff_getElem.1 h
  have hj : j < kn.length := by simpa using hj0
  have hk : d = kn[j] := by have := of_decide_eq_true hjd; simpa using this
  refine ⟨hj, ?_⟩
  unfold knP mdP
  rw [hk]
  simp [hj]
theorem known_new (msg d : D) (l : List Sd) (kn : List D) : mpSet (knP msg l kn) none (.agg (dP d)) (.v (.bool (agreesE d msg l))) = knP msg l (kn ++ [d]) := by
  unfold mpSet knP mdP
  simp
theorem places_at {l : List Sd} {gs : List Gp} {m0 j : Nat} {d : D} (hg : GsAt l gs l.length m0) (h : (gs.map fun g => (g.1, PV.sl .any (isP g.2.2))).findIdx? (fun p => decide (d = p.1)) = some j) : j < gs.length ∧ (byD gs)[j]? = some (.agg (dP d), .sl .any (isP (placesE l l.length d))) := by
  obtain ⟨hj0, hjd, -⟩ := List.findIdx?_eq_some_iff_getElem.1 h
  have hj : j < gs.length := by simpa using hj0
  have hk : d = gs[j].1 := by have := of_decide_eq_true hjd; simpa using this
  refine ⟨hj, ?_⟩
  rw [hk, ← hg.idx _ (List.getElem_mem hj)]
  unfold byD mdP
  simp [hj]
theorem places_none {l : List Sd} {gs : List Gp} {m0 : Nat} {d : D} (hg : GsAt l gs l.length m0) (h : (gs.map fun g => (g.1, PV.sl .any (isP g.2.2))).findIdx? (fun p => decide (d = p.1)) = none) : placesE l l.length d = [] := by
  unfold placesE
  rw [List.filter_eq_nil_iff]
  intro i hi he
  obtain ⟨g, hg2, hgi⟩ := hg.all i (List.mem_range.1 hi)
  have h2 := List.findIdx?_eq_none_iff.1 h (g.1, PV.sl .any (isP g.2.2)) (List.mem_map.2 ⟨g, hg2, rfl⟩)
  simp only [decide_eq_false_iff_not] at h2
  exact h2 (((of_decide_eq_true he).symm.trans hgi.symm))
theorem places_len {l : List Sd} {d : D} {ps : List Nat} (h : placesE l l.length d = ps) : ps.length ≤ l.length := by
  rw [← h]
  unfold placesE
  have := List.length_filter_le (fun i => decide ((l.getD i zeroSd).1 = d)) (List.range l.length)
  rwa [List.length_range] at this
theorem places_mem {l : List Sd} {d : D} {ps : List Nat} (h : placesE l l.length d = ps) {i : Nat} (hi : i < ps.length) : ps.getD i 0 < l.length ∧ (l.getD (ps.getD i 0) zeroSd).1 = d := by
  have e : ps.getD i 0 ∈ ps := by rw [List.getD_eq_getElem?_getD, List.getElem?_eq_getElem hi]; exact List.getElem_mem hi
  generalize ps.getD i 0 = x at *
  rw [← h] at e
  unfold placesE at e
  rw [List.mem_filter] at e
  exact ⟨List.mem_range.1 e.1, of_decide_eq_true e.2⟩
theorem places_not {l : List Sd} {d msg : D} {ps : List Nat} (h : placesE l l.length d = ps) (hn : ∀ i, i < ps.length → agE d msg (l.getD (ps.getD i 0) zeroSd) = false) : agreesE d msg l = false := by
  refine agrees_not fun i hi => ?_
  by_cases hd : (l.getD i zeroSd).1 = d
  · have hm : i ∈ ps := by
      rw [← h]
      unfold placesE
      rw [List.mem_filter]
      exact ⟨List.mem_range.2 hi, decide_eq_true hd⟩
    obtain ⟨j, hj, rfl⟩ := List.mem_iff_getElem.1 hm
    have := hn j hj
    rwa [show ps.getD j 0 = ps[j] by rw [List.getD_eq_getElem?_getD, List.getElem?_eq_getElem hj]; rfl] at this
  · unfold agE
    rw [decide_eq_false hd]; rfl
theorem byM_dem (gs : List Gp) : ((byM gs).map fun p => (p.1, p.2.dem1)) = byD gs := by
  unfold byM byD mdP
  simp [PV.dem1, Function.comp]
theorem byM_leaf (gs : List Gp) : ((byM gs).all fun p => p.2.leaf) = true := by
  rw [List.all_eq_true]
  intro p hp
  unfold byM mdP at hp
  rw [List.map_map] at hp
  obtain ⟨g, hg, rfl⟩ := List.mem_map.1 hp
  rfl

set_option maxRecDepth 100000 in
set_option maxHeartbeats 4000000 in
theorem s_askA (bs : List D) (need : Int) (msg d : D) (l : List Sd) (gs : List Gp) (m0 : Nat) (kn : List D) (hg : GsAt l gs l.length m0) (hl : l.length ≤ 1000000) (hs : ∀ s ∈ l, s.2.2.2.length ≤ 1000000) :
    SpecI (Ctx.mk Tryd.prog globX (0 + 1) Places) 22 [.agg (dP d), .ptr 7 0, .ptr 5 0, .ptr 2 0, .ptr 3 0] 9 ([(1, .cells (polP bs need)), (2, .cells (dP msg)), (3, .cells [.sl .any (sdsP l)]), (4, .mp (byD gs)), (5, .cells [.mp 4]), (6, .mp (knP msg l kn)), (7, .cells [.mp 6])] ++ [(8, .cells (dP d))])
      (AskR msg d l 10 [(1, .cells (polP bs need)), (2, .cells (dP msg)), (3, .cells [.sl .any (sdsP l)]), (4, .mp (byD gs)), (5, .cells [.mp 4])] ((7, .cells [.mp 6]) :: [(8, .cells (dP d))] ++ [(9, .cells (dP d))])) := by
  have hf1 := mapFind_D d (kn.map fun d => (d, PV.v (.bool (agreesE d msg l))))
  have hf2 := mapFind_D d (gs.map fun g => (g.1, PV.sl .any (isP g.2.2)))
  refine specI_of_body CX_mixed Tryd.func22 rfl (40) rfl (by decide) ?_
  refine go_ ?_
  cases e1 : (kn.map fun d => (d, PV.v (.bool (agreesE d msg l)))).findIdx? (fun p => decide (d = p.1)) with
  | some j =>
    rw [e1] at hf1
    obtain ⟨hj, hkj⟩ := known_at e1
    with_reducible apply run_y
    exact want_
    · intro K hK
      refine ev_ ?_
      refine ⟨_, some j, dP_flat d, hf1, _, _, hkj, ?_⟩
      refine ev_ ?_
      exact hK
    refine go_ ?_
    refine ev_ ?_
    exact ⟨kn, rfl, rfl, rfl⟩
  | none =>
    rw [e1] at hf1
    with_reducible apply run_y
    exact want_
    · intro K hK
      refine ev_ ?_
      refine ⟨_, none, dP_flat d, hf1, ?_⟩
      refine ev_ ?_
      exact hK
    refine goto_ 4 ?_
    refine c_seq_cut (fun q m h => q = [.top, .ptr 7 0, .ptr 5 0, .ptr 2 0, .ptr 3 0, .ptr 9 0, .v (.bool false), .v (.bool (agreesE d msg l))] ++ List.replicate (40 - 8) .top ∧ m = 10 ∧ h = [(1, .cells (polP bs need)), (2, .cells (dP msg)), (3, .cells [.sl .any (sdsP l)]), (4, .mp (byD gs)), (5, .cells [.mp 4]), (6, .mp (knP msg l kn)), (7, .cells [.mp 6])] ++ [(8, .cells (dP d))] ++ [(9, .cells (dP d))]) ?_ ?_
    · skip
      refine go_ ?_
      cases e2 : (gs.map fun g => (g.1, PV.sl .any (isP g.2.2))).findIdx? (fun p => decide (d = p.1)) with
      | some j =>
        rw [e2] at hf2
        obtain ⟨hj2, hpl⟩ := places_at hg e2
        generalize hps : placesE l l.length d = ps at *
        have hpm := fun i => places_mem hps (i := i)
        have hpn := fun h => places_not hps (msg := msg) h
        with_reducible apply run_y
        exact want_
        · intro K hK
          refine ev_ ?_
          refine ⟨_, some j, dP_flat d, hf2, _, _, hpl, ?_⟩
          refine ev_ ?_
          exact hK
        refine go_ ?_
        refine c_loop (fun f q m h => ∃ j : Nat, j ≤ ps.length ∧ (∀ i, i < j → agE d msg (l.getD (ps.getD i 0) zeroSd) = false) ∧ f = ps.length - j ∧ q = [.top, .ptr 7 0, .ptr 5 0, .ptr 2 0, .ptr 3 0, .ptr 9 0, .v (.bool false), .v (.bool false)] ++ List.replicate 13 .top ++ [.sl .any (isP ps), .v (.int .i64 ((isP ps).length : Int)), .v (.int .i64 (j : Int))] ++ List.replicate 16 .top ∧ m = 10 ∧ h = [(1, .cells (polP bs need)), (2, .cells (dP msg)), (3, .cells [.sl .any (sdsP l)]), (4, .mp (byD gs)), (5, .cells [.mp 4]), (6, .mp (knP msg l kn)), (7, .cells [.mp 6])] ++ [(8, .cells (dP d))] ++ [(9, .cells (dP d))])
          ⟨_, _, _, _, ?_, ?_, ⟨0, Nat.zero_le _, fun i hi => by omega, rfl, rfl, rfl, rfl⟩⟩ ?_
        · rfl
        · skip
          exact sub_
        · rintro f q m h hlen2 ⟨j, hj, hn, rfl, rfl, rfl, rfl⟩
          clear hlen2
          by_cases h1 : j < ps.length
          · have g1 : decide ((j : Int) < ((isP ps).length : Int)) = true := decide_eq_true (by rw [isP_len]; omega)
            have hat := isP_at h1
            obtain ⟨hi, hid⟩ := hpm j h1
            have hpl2 : ps.length ≤ 1000000 := Nat.le_trans (places_len hps) hl
            have hw : IntKind.i64.wrap ((j : Int) + 1) = ((j + 1 : Nat) : Int) := by rw [wrap64 (by omega) (by omega)]; omega
            have hnext : agE d msg (l.getD (ps.getD j 0) zeroSd) = false → ∀ i, i < j + 1 → agE d msg (l.getD (ps.getD i 0) zeroSd) = false := fun h i hi => by
              by_cases e : i = j
              · subst e; exact h
              · exact hn i (by omega)
            generalize ps.getD j 0 = x at *
            have hsl := hs _ (sd_mem hi)
            have hyes := agrees_yes (b := d) (msg := msg) hi
            have hat2 := sdsP_at hi
            generalize l.getD x zeroSd = s at *
            obtain ⟨sb, si, so, sp⟩ := s
            replace hid : sb = d := hid
            subst hid
            rw [agE_eq, decide_eq_true rfl, Bool.true_and] at hyes hnext
            have hk := s_kcheck sb msg (si, so, sp) hsl
            refine go_ ?_
            with_reducible apply run_y
            exact want_
            · intro K hK
              refine ev_ ?_
              refine ⟨j, _, rfl, hat, rfl, ?_⟩
              refine ev_ ?_
              exact hK
            refine go_ ?_
            with_reducible apply run_y
            exact want_
            · intro K hK
              refine ev_ ?_
              refine ⟨x, _, rfl, hat2, rfl, ?_⟩
              refine ev_ ?_
              exact hK
            refine go_ ?_
            with_reducible apply run_y
            exact want_
            · intro K hK
              refine ev_ ?_
              refine vcCall_plain (hk) (by kernel_rfl) ?_
              refine ev_ ?_
              exact hK
            refine go_ ?_
            cases e3 : kcheckE sb msg (si, so, sp)
            case false =>
              refine go_ ?_
              rw [hw]
              refine c_round ⟨_, _, _, _, ?_, ?_, ?_, ⟨j + 1, h1, hnext e3, rfl, rfl, rfl, rfl⟩⟩
              · omega
              · rfl
              · skip
                exact sub_
            case true =>
              rw [hyes e3]
              refine go_ ?_
              refine c_cut ⟨_, _, _, ?_, ?_, rfl, rfl, rfl⟩
              · rfl
              · exact sub_
          · have hjl : j = ps.length := by omega
            subst hjl
            have g1 : decide (((ps.length : Nat) : Int) < ((isP ps).length : Int)) = false := decide_eq_false (by rw [isP_len]; omega)
            rw [hpn hn]
            refine go_ ?_
            refine c_cut ⟨_, _, _, ?_, ?_, rfl, rfl, rfl⟩
            · rfl
            · exact sub_
      | none =>
        rw [e2] at hf2
        have hps := places_none hg e2
        have hpn := fun h => places_not hps (msg := msg) h
        with_reducible apply run_y
        exact want_
        · intro K hK
          refine ev_ ?_
          refine ⟨_, none, dP_flat d, hf2, ?_⟩
          refine ev_ ?_
          exact hK
        rw [hpn (fun i hi => by simp at hi)]
        refine go_ ?_
        refine c_loop (fun f q m h => f = 0 ∧ q = [.top, .ptr 7 0, .ptr 5 0, .ptr 2 0, .ptr 3 0, .ptr 9 0, .v (.bool false), .v (.bool false)] ++ List.replicate 13 .top ++ [.sl .full [], .v (.int .i64 0), .v (.int .i64 0)] ++ List.replicate 16 .top ∧ m = 10 ∧ h = [(1, .cells (polP bs need)), (2, .cells (dP msg)), (3, .cells [.sl .any (sdsP l)]), (4, .mp (byD gs)), (5, .cells [.mp 4]), (6, .mp (knP msg l kn)), (7, .cells [.mp 6])] ++ [(8, .cells (dP d))] ++ [(9, .cells (dP d))])
          ⟨_, _, _, _, ?_, ?_, ⟨rfl, rfl, rfl, rfl⟩⟩ ?_
        · rfl
        · skip
          exact sub_
        · rintro f q m h hlen2 ⟨rfl, rfl, rfl, rfl⟩
          refine go_ ?_
          refine c_cut ⟨_, _, _, ?_, ?_, rfl, rfl, rfl⟩
          · rfl
          · exact sub_
    rintro q m h hlen ⟨rfl, rfl, rfl⟩
    clear hlen
    refine go_ ?_
    with_reducible apply run_y
    exact want_
    · intro K hK
      refine ev_ ?_
      refine ⟨_, none, dP_flat d, hf1, ?_⟩
      refine ev_ ?_
      exact hK
    conv =>
      pattern (HC.mp (mpSet _ _ _ _))
      change HC.mp (mpSet (knP msg l kn) none (PV.agg (dP d)) (PV.v (.bool (agreesE d msg l))))
    rw [known_new]
    refine go_ ?_
    refine ev_ ?_
    exact ⟨kn ++ [d], rfl, rfl, rfl⟩

set_option maxRecDepth 100000 in
set_option maxHeartbeats 4000000 in
theorem s_askB (bs : List D) (need : Int) (msg d : D) (l : List Sd) (gs : List Gp) (m0 : Nat) (kn : List D) (who : List Nat) (hg : GsAt l gs l.length m0) (hl : l.length ≤ 1000000) (hs : ∀ s ∈ l, s.2.2.2.length ≤ 1000000) :
    SpecI (Ctx.mk Tryd.prog globX (0 + 1) Places) 22 [.agg (dP d), .ptr 7 0, .ptr 5 0, .ptr 2 0, .ptr 3 0] 12 ([(1, .cells (polP bs need)), (2, .cells (dP msg)), (3, .cells [.sl .any (sdsP l)]), (4, .mp (byD gs)), (5, .cells [.mp 4]), (6, .mp (knP msg l kn)), (7, .cells [.mp 6])] ++ [(10, .row (isP who).length 3), (11, .cells (dP d))])
      (AskR msg d l 13 [(1, .cells (polP bs need)), (2, .cells (dP msg)), (3, .cells [.sl .any (sdsP l)]), (4, .mp (byD gs)), (5, .cells [.mp 4])] ((7, .cells [.mp 6]) :: [(10, .row (isP who).length 3), (11, .cells (dP d))] ++ [(12, .cells (dP d))])) := by
  have hf1 := mapFind_D d (kn.map fun d => (d, PV.v (.bool (agreesE d msg l))))
  have hf2 := mapFind_D d (gs.map fun g => (g.1, PV.sl .any (isP g.2.2)))
  refine specI_of_body CX_mixed Tryd.func22 rfl (40) rfl (by decide) ?_
  refine go_ ?_
  cases e1 : (kn.map fun d => (d, PV.v (.bool (agreesE d msg l)))).findIdx? (fun p => decide (d = p.1)) with
  | some j =>
    rw [e1] at hf1
    obtain ⟨hj, hkj⟩ := known_at e1
    with_reducible apply run_y
    exact want_
    · intro K hK
      refine ev_ ?_
      refine ⟨_, some j, dP_flat d, hf1, _, _, hkj, ?_⟩
      refine ev_ ?_
      exact hK
    refine go_ ?_
    refine ev_ ?_
    exact ⟨kn, rfl, rfl, rfl⟩
  | none =>
    rw [e1] at hf1
    with_reducible apply run_y
    exact want_
    · intro K hK
      refine ev_ ?_
      refine ⟨_, none, dP_flat d, hf1, ?_⟩
      refine ev_ ?_
      exact hK
    refine goto_ 4 ?_
    refine c_seq_cut (fun q m h => q = [.top, .ptr 7 0, .ptr 5 0, .ptr 2 0, .ptr 3 0, .ptr 12 0, .v (.bool false), .v (.bool (agreesE d msg l))] ++ List.replicate (40 - 8) .top ∧ m = 13 ∧ h = [(1, .cells (polP bs need)), (2, .cells (dP msg)), (3, .cells [.sl .any (sdsP l)]), (4, .mp (byD gs)), (5, .cells [.mp 4]), (6, .mp (knP msg l kn)), (7, .cells [.mp 6])] ++ [(10, .row (isP who).length 3), (11, .cells (dP d))] ++ [(12, .cells (dP d))]) ?_ ?_
    · skip
      refine go_ ?_
      cases e2 : (gs.map fun g => (g.1, PV.sl .any (isP g.2.2))).findIdx? (fun p => decide (d = p.1)) with
      | some j =>
        rw [e2] at hf2
        obtain ⟨hj2, hpl⟩ := places_at hg e2
        generalize hps : placesE l l.length d = ps at *
        have hpm := fun i => places_mem hps (i := i)
        have hpn := fun h => places_not hps (msg := msg) h
        with_reducible apply run_y
        exact want_
        · intro K hK
          refine ev_ ?_
          refine ⟨_, some j, dP_flat d, hf2, _, _, hpl, ?_⟩
          refine ev_ ?_
          exact hK
        refine go_ ?_
        refine c_loop (fun f q m h => ∃ j : Nat, j ≤ ps.length ∧ (∀ i, i < j → agE d msg (l.getD (ps.getD i 0) zeroSd) = false) ∧ f = ps.length - j ∧ q = [.top, .ptr 7 0, .ptr 5 0, .ptr 2 0, .ptr 3 0, .ptr 12 0, .v (.bool false), .v (.bool false)] ++ List.replicate 13 .top ++ [.sl .any (isP ps), .v (.int .i64 ((isP ps).length : Int)), .v (.int .i64 (j : Int))] ++ List.replicate 16 .top ∧ m = 13 ∧ h = [(1, .cells (polP bs need)), (2, .cells (dP msg)), (3, .cells [.sl .any (sdsP l)]), (4, .mp (byD gs)), (5, .cells [.mp 4]), (6, .mp (knP msg l kn)), (7, .cells [.mp 6])] ++ [(10, .row (isP who).length 3), (11, .cells (dP d))] ++ [(12, .cells (dP d))])
          ⟨_, _, _, _, ?_, ?_, ⟨0, Nat.zero_le _, fun i hi => by omega, rfl, rfl, rfl, rfl⟩⟩ ?_
        · rfl
        · skip
          exact sub_
        · rintro f q m h hlen2 ⟨j, hj, hn, rfl, rfl, rfl, rfl⟩
          clear hlen2
          by_cases h1 : j < ps.length
          · have g1 : decide ((j : Int) < ((isP ps).length : Int)) = true := decide_eq_true (by rw [isP_len]; omega)
            have hat := isP_at h1
            obtain ⟨hi, hid⟩ := hpm j h1
            have hpl2 : ps.length ≤ 1000000 := Nat.le_trans (places_len hps) hl
            have hw : IntKind.i64.wrap ((j : Int) + 1) = ((j + 1 : Nat) : Int) := by rw [wrap64 (by omega) (by omega)]; omega
            have hnext : agE d msg (l.getD (ps.getD j 0) zeroSd) = false → ∀ i, i < j + 1 → agE d msg (l.getD (ps.getD i 0) zeroSd) = false := fun h i hi => by
              by_cases e : i = j
              · subst e; exact h
              · exact hn i (by omega)
            generalize ps.getD j 0 = x at *
            have hsl := hs _ (sd_mem hi)
            have hyes := agrees_yes (b := d) (msg := msg) hi
            have hat2 := sdsP_at hi
            generalize l.getD x zeroSd = s at *
            obtain ⟨sb, si, so, sp⟩ := s
            replace hid : sb = d := hid
            subst hid
            rw [agE_eq, decide_eq_true rfl, Bool.true_and] at hyes hnext
            have hk := s_kcheck sb msg (si, so, sp) hsl
            refine go_ ?_
            with_reducible apply run_y
            exact want_
            · intro K hK
              refine ev_ ?_
              refine ⟨j, _, rfl, hat, rfl, ?_⟩
              refine ev_ ?_
              exact hK
            refine go_ ?_
            with_reducible apply run_y
            exact want_
            · intro K hK
              refine ev_ ?_
              refine ⟨x, _, rfl, hat2, rfl, ?_⟩
              refine ev_ ?_
              exact hK
            refine go_ ?_
            with_reducible apply run_y
            exact want_
            · intro K hK
              refine ev_ ?_
              refine vcCall_plain (hk) (by kernel_rfl) ?_
              refine ev_ ?_
              exact hK
            refine go_ ?_
            cases e3 : kcheckE sb msg (si, so, sp)
            case false =>
              refine go_ ?_
              rw [hw]
              refine c_round ⟨_, _, _, _, ?_, ?_, ?_, ⟨j + 1, h1, hnext e3, rfl, rfl, rfl, rfl⟩⟩
              · omega
              · rfl
              · skip
                exact sub_
            case true =>
              rw [hyes e3]
              refine go_ ?_
              refine c_cut ⟨_, _, _, ?_, ?_, rfl, rfl, rfl⟩
              · rfl
              · exact sub_
          · have hjl : j = ps.length := by omega
            subst hjl
            have g1 : decide (((ps.length : Nat) : Int) < ((isP ps).length : Int)) = false := decide_eq_false (by rw [isP_len]; omega)
            rw [hpn hn]
            refine go_ ?_
            refine c_cut ⟨_, _, _, ?_, ?_, rfl, rfl, rfl⟩
            · rfl
            · exact sub_
      | none =>
        rw [e2] at hf2
        have hps := places_none hg e2
        have hpn := fun h => places_not hps (msg := msg) h
        with_reducible apply run_y
        exact want_
        · intro K hK
          refine ev_ ?_
          refine ⟨_, none, dP_flat d, hf2, ?_⟩
          refine ev_ ?_
          exact hK
        rw [hpn (fun i hi => by simp at hi)]
        refine go_ ?_
        refine c_loop (fun f q m h => f = 0 ∧ q = [.top, .ptr 7 0, .ptr 5 0, .ptr 2 0, .ptr 3 0, .ptr 12 0, .v (.bool false), .v (.bool false)] ++ List.replicate 13 .top ++ [.sl .full [], .v (.int .i64 0), .v (.int .i64 0)] ++ List.replicate 16 .top ∧ m = 13 ∧ h = [(1, .cells (polP bs need)), (2, .cells (dP msg)), (3, .cells [.sl .any (sdsP l)]), (4, .mp (byD gs)), (5, .cells [.mp 4]), (6, .mp (knP msg l kn)), (7, .cells [.mp 6])] ++ [(10, .row (isP who).length 3), (11, .cells (dP d))] ++ [(12, .cells (dP d))])
          ⟨_, _, _, _, ?_, ?_, ⟨rfl, rfl, rfl, rfl⟩⟩ ?_
        · rfl
        · skip
          exact sub_
        · rintro f q m h hlen2 ⟨rfl, rfl, rfl, rfl⟩
          refine go_ ?_
          refine c_cut ⟨_, _, _, ?_, ?_, rfl, rfl, rfl⟩
          · rfl
          · exact sub_
    rintro q m h hlen ⟨rfl, rfl, rfl⟩
    clear hlen
    refine go_ ?_
    with_reducible apply run_y
    exact want_
    · intro K hK
      refine ev_ ?_
      refine ⟨_, none, dP_flat d, hf1, ?_⟩
      refine ev_ ?_
      exact hK
    conv =>
      pattern (HC.mp (mpSet _ _ _ _))
      change HC.mp (mpSet (knP msg l kn) none (PV.agg (dP d)) (PV.v (.bool (agreesE d msg l))))
    rw [known_new]
    refine go_ ?_
    refine ev_ ?_
    exact ⟨kn ++ [d], rfl, rfl, rfl⟩
end Go.Proofs.YtjokaennipmmaaaDoor
