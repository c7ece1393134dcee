import Derived.Test.YtjokaennipmmaaaDoorQuoL
import Derived.Test.YtjokaennipmmaaaDoorOpn
/- Laws of quorums: QuorumRights, QuorumTells, QuorumFew, QuorumHonest. -/
namespace Go.Proofs.YtjokaennipmmaaaDoor
open Go.RowKit
set_option linter.unnecessarySimpa false
theorem who_len (bs : List D) (msg : D) (l : List Sd) : (whoE bs msg l).length ≤ bs.length := by
  have := whoUp_len bs msg l bs.length
  exact this
set_option maxRecDepth 100000 in
set_option maxHeartbeats 2000000 in
theorem s_quorumRights (bs : List D) (need : Int) : Spec (Ctx.mk Tryd.prog globX (0 + 1) Places) 3 [.agg (polP bs need)] [] (.v (.bool true)) [] := by
  refine spec_of_bodyL CX_mixed CX_gpk Tryd.func3 rfl 28 0 rfl rfl rfl rfl ?_
  refine go_ ?_
  cases g1 : decide (((dsP bs).length : Int) > 30)
  case true =>
    refine go_ ?_
    with_reducible apply run_y
    exact want_
    · intro K hK
      refine ev_ ?_
      refine vcCall_plain (s_awake45) (by kernel_rfl) ?_
      refine ev_ ?_
      exact hK
    refine go_ ?_
    refine ev_ ?_
    exact .mk (by rfl) trivial
  case false =>
    have hl : bs.length ≤ 30 := by have := of_decide_eq_false g1; rw [dsP_len] at this; omega
    have r1 := s_qright bs need (by omega)
    have r2 := s_rqright bs need (by omega)
    have b1 := s_bad bs need
    have b2 := s_rbad bs need
    refine go_ ?_
    with_reducible apply run_y
    exact want_
    · intro K hK
      refine ev_ ?_
      refine vcCall_plain (s_awake45) (by kernel_rfl) ?_
      refine ev_ ?_
      exact hK
    refine go_ ?_
    with_reducible apply run_y
    exact want_
    · intro K hK
      refine ev_ ?_
      refine vcCall_plain (r1) (by kernel_rfl) ?_
      refine ev_ ?_
      exact hK
    refine go_ ?_
    with_reducible apply run_y
    exact want_
    · intro K hK
      refine ev_ ?_
      refine vcCall_plain (r2) (by kernel_rfl) ?_
      refine ev_ ?_
      exact hK
    refine go_ ?_
    generalize qrightE bs need = x at *
    cases x
    · skip
      with_reducible apply run_y
      exact want_
      · intro K hK
        refine ev_ ?_
        refine vcCall_plain (r2) (by kernel_rfl) ?_
        refine ev_ ?_
        exact hK
      refine go_ ?_
      refine ev_ ?_
      exact .mk (vb_eq (by simp)) trivial
    · skip
      with_reducible apply run_y
      exact want_
      · intro K hK
        refine ev_ ?_
        refine vcCall_plain (r2) (by kernel_rfl) ?_
        refine ev_ ?_
        exact hK
      refine go_ ?_
      with_reducible apply run_y
      exact want_
      · intro K hK
        refine ev_ ?_
        refine vcCall_plain (b1) (by kernel_rfl) ?_
        refine ev_ ?_
        exact hK
      refine go_ ?_
      with_reducible apply run_y
      exact want_
      · intro K hK
        refine ev_ ?_
        refine vcCall_plain (b2) (by kernel_rfl) ?_
        refine ev_ ?_
        exact hK
      refine go_ ?_
      refine ev_ ?_
      exact .mk (vb_eq (by simp)) trivial
set_option maxRecDepth 100000 in
set_option maxHeartbeats 2000000 in
theorem s_quorumTells (bs : List D) (need : Int) (msg : D) (l : List Sd) : Spec (Ctx.mk Tryd.prog globX (0 + 1) Places) 4 [.agg (askP bs need msg l)] [] (.v (.bool true)) [] := by
  have q0 := s_small45 bs need msg l
  refine spec_of_bodyL CX_mixed CX_gpk Tryd.func4 rfl 42 0 rfl rfl rfl rfl ?_
  refine go_ ?_
  with_reducible apply run_y
  exact want_
  · intro K hK
    refine ev_ ?_
    refine vcCall_plain (q0) (by kernel_rfl) ?_
    refine ev_ ?_
    exact hK
  refine go_ ?_
  cases hsm : smE bs l
  case false =>
    refine go_ ?_
    with_reducible apply run_y
    exact want_
    · intro K hK
      refine ev_ ?_
      refine vcCall_plain (s_awake45) (by kernel_rfl) ?_
      refine ev_ ?_
      exact hK
    refine go_ ?_
    refine ev_ ?_
    exact .mk (by rfl) trivial
  case true =>
    obtain ⟨h1, h2, h3⟩ := sm_spec hsm
    have w1 := s_who bs need msg l (by omega) (by omega) h3
    have w2 := s_rwho bs need msg l (by omega) (by omega) h3
    have o1 := s_qholds bs need msg l (by omega) (by omega) h3
    have o2 := s_rqholds bs need msg l (by omega) (by omega) h3
    have j1 := s_ints (whoE bs msg l) (whoE bs msg l) (by have := who_len bs msg l; omega)
    rw [decide_eq_true rfl] at j1
    generalize whoE bs msg l = k at *
    generalize holdsE bs need msg l = x at *
    refine go_ ?_
    with_reducible apply run_y
    exact want_
    · intro K hK
      refine ev_ ?_
      refine vcCall_plain (s_awake45) (by kernel_rfl) ?_
      refine ev_ ?_
      exact hK
    refine go_ ?_
    with_reducible apply run_y
    exact want_
    · intro K hK
      refine ev_ ?_
      refine vcCall_plain (w1) (by kernel_rfl) ?_
      refine ev_ ?_
      exact hK
    refine go_ ?_
    with_reducible apply run_y
    exact want_
    · intro K hK
      refine ev_ ?_
      refine vcCall_plain (w2) (by kernel_rfl) ?_
      refine ev_ ?_
      exact hK
    refine go_ ?_
    with_reducible apply run_y
    exact want_
    · intro K hK
      refine ev_ ?_
      refine vcCall_plain (j1) (by kernel_rfl) ?_
      refine ev_ ?_
      exact hK
    refine go_ ?_
    with_reducible apply run_y
    exact want_
    · intro K hK
      refine ev_ ?_
      refine vcCall_plain (o1) (by kernel_rfl) ?_
      refine ev_ ?_
      exact hK
    refine go_ ?_
    with_reducible apply run_y
    exact want_
    · intro K hK
      refine ev_ ?_
      refine vcCall_plain (o2) (by kernel_rfl) ?_
      refine ev_ ?_
      exact hK
    refine go_ ?_
    refine ev_ ?_
    exact .mk (vb_eq (by simp)) trivial
/-- Does one of the first k signatures name a builder? -/
def nmK (b : D) (l : List Sd) (k : Nat) : Bool := (List.range k).any fun i => decide ((l.getD i zeroSd).1 = b)
theorem nmK_next (b : D) (l : List Sd) (k : Nat) : nmK b l (k + 1) = (nmK b l k || decide ((l.getD k zeroSd).1 = b)) := by
  unfold nmK
  rw [List.range_succ, List.any_append]; simp
theorem nmK_all (b : D) (l : List Sd) : nmK b l l.length = namedE b l := by
  unfold nmK namedE
  rw [Bool.eq_iff_iff, List.any_eq_true, List.any_eq_true]
  constructor
  · rintro ⟨i, hi, h⟩
    exact ⟨_, sd_mem (List.mem_range.1 hi), h⟩
  · rintro ⟨s, hs, h⟩
    obtain ⟨i, hi, rfl⟩ := List.mem_iff_getElem.1 hs
    refine ⟨i, List.mem_range.2 hi, ?_⟩
    rwa [show l.getD i zeroSd = l[i] by rw [List.getD_eq_getElem?_getD, List.getElem?_eq_getElem hi]; rfl]
def nmUp (bs : List D) (l : List Sd) (i : Nat) : Nat := (List.range i).countP fun i => namedE (bs.getD i D.zero) l
theorem nmUp_yes {bs : List D} {l : List Sd} {i : Nat} (h : namedE (bs.getD i D.zero) l = true) : nmUp bs l (i + 1) = nmUp bs l i + 1 := by
  unfold nmUp
  rw [List.range_succ, List.countP_append, List.countP_singleton, if_pos h]
theorem nmUp_no {bs : List D} {l : List Sd} {i : Nat} (h : namedE (bs.getD i D.zero) l = false) : nmUp bs l (i + 1) = nmUp bs l i := by
  unfold nmUp
  rw [List.range_succ, List.countP_append, List.countP_singleton, if_neg (by rw [h]; decide)]; rfl
theorem nmUp_le (bs : List D) (l : List Sd) (i : Nat) : nmUp bs l i ≤ i := by
  unfold nmUp
  have := List.countP_le_length (p := fun i => namedE (bs.getD i D.zero) l) (l := List.range i)
  rwa [List.length_range] at this
theorem holds_need {bs : List D} {need : Int} {msg : D} {l : List Sd} (h : holdsE bs need msg l = true) : 1 ≤ need ∧ need ≤ (bs.length : Int) ∧ need ≤ ((whoE bs msg l).length : Int) := by
  unfold holdsE qrightE at h
  simp only [Bool.and_eq_true, decide_eq_true_eq] at h
  exact ⟨h.1.1.1.2, h.1.1.2, h.2⟩
set_option maxRecDepth 100000 in
set_option maxHeartbeats 4000000 in
theorem s_quorumFew (bs : List D) (need : Int) (msg : D) (l : List Sd) : Spec (Ctx.mk Tryd.prog globX (0 + 1) Places) 5 [.agg (askP bs need msg l)] [] (.v (.bool true)) [] := by
  have q0 := s_small45 bs need msg l
  refine spec_of_bodyL CX_mixed CX_gpk Tryd.func5 rfl 75 0 rfl rfl rfl rfl ?_
  refine go_ ?_
  with_reducible apply run_y
  exact want_
  · intro K hK
    refine ev_ ?_
    refine vcCall_plain (q0) (by kernel_rfl) ?_
    refine ev_ ?_
    exact hK
  refine go_ ?_
  cases hsm : smE bs l
  case false =>
    refine go_ ?_
    with_reducible apply run_y
    exact want_
    · intro K hK
      refine ev_ ?_
      refine vcCall_plain (s_awake45) (by kernel_rfl) ?_
      refine ev_ ?_
      exact hK
    refine go_ ?_
    refine ev_ ?_
    exact .mk (by rfl) trivial
  case true =>
    obtain ⟨h1, h2, h3⟩ := sm_spec hsm
    have w1 := s_who bs need msg l (by omega) (by omega) h3
    have o1 := s_qholds bs need msg l (by omega) (by omega) h3
    have hfew := whoE_few bs msg l
    have hhn := holds_need (bs := bs) (need := need) (msg := msg) (l := l)
    refine go_ ?_
    refine c_loop (fun f q m h => ∃ i : Nat, i ≤ bs.length ∧ f = bs.length - i ∧ q = [.top, .ptr 1 0, .v (.bool false), .v (.int .i64 ((nmUp bs l i : Nat) : Int)), .v (.int .i64 (i : Int))] ++ List.replicate 70 .top ∧ m = 2 ∧ h = [(1, .cells (askP bs need msg l))])
      ⟨_, _, _, _, ?_, ?_, ⟨0, Nat.zero_le _, rfl, rfl, rfl, rfl⟩⟩ ?_
    · rfl
    · skip
      exact sub_
    · rintro f q m h hlen2 ⟨i, hi, rfl, rfl, rfl, rfl⟩
      clear hlen2
      by_cases hib : i < bs.length
      · have g1 : decide ((i : Int) < ((dsP bs).length : Int)) = true := decide_eq_true (by rw [dsP_len]; omega)
        have hw : IntKind.i64.wrap ((i : Int) + 1) = ((i + 1 : Nat) : Int) := by rw [wrap64 (by omega) (by omega)]; omega
        have hup := nmUp_le bs l i
        have hw2 : IntKind.i64.wrap (((nmUp bs l i : Nat) : Int) + 1) = ((nmUp bs l i + 1 : Nat) : Int) := by rw [wrap64 (by omega) (by omega)]; omega
        refine go_ ?_
        refine c_loop (fun f q m h => ∃ k : Nat, k ≤ l.length ∧ f = l.length - k ∧ q = [.top, .ptr 1 0, .v (.bool false), .v (.int .i64 ((nmUp bs l i : Nat) : Int)), .v (.int .i64 (i : Int)), .v (.bool (nmK (bs.getD i D.zero) l k)), .v (.int .i64 (k : Int))] ++ List.replicate 68 .top ∧ m = 2 ∧ h = [(1, .cells (askP bs need msg l))])
          ⟨_, _, _, _, ?_, ?_, ⟨0, Nat.zero_le _, rfl, rfl, rfl, rfl⟩⟩ ?_
        · rfl
        · skip
          exact sub_
        · rintro f q m h hlen2 ⟨k, hk, rfl, rfl, rfl, rfl⟩
          clear hlen2
          by_cases hkl : k < l.length
          · have g2 : decide ((k : Int) < ((sdsP l).length : Int)) = true := decide_eq_true (by rw [sdsP_len]; omega)
            have hw3 : IntKind.i64.wrap ((k : Int) + 1) = ((k + 1 : Nat) : Int) := by rw [wrap64 (by omega) (by omega)]; omega
            have hnx := nmK_next (bs.getD i D.zero) l k
            have hat := sdsP_at hkl
            generalize l.getD k zeroSd = s at *
            obtain ⟨sb, si, so, sp⟩ := s
            replace hnx : nmK (bs.getD i D.zero) l (k + 1) = (nmK (bs.getD i D.zero) l k || decide (sb = bs.getD i D.zero)) := hnx
            cases e1 : nmK (bs.getD i D.zero) l k
            · rw [e1, Bool.false_or] at hnx
              refine go_ ?_
              with_reducible apply run_y
              exact want_
              · intro K hK
                refine ev_ ?_
                refine ⟨k, _, rfl, hat, rfl, ?_⟩
                refine ev_ ?_
                exact hK
              refine go_ ?_
              rw [hw3]
              refine c_round ⟨_, _, _, _, ?_, ?_, ?_, ⟨k + 1, hkl, rfl, by rw [hnx], rfl, rfl⟩⟩
              · omega
              · rfl
              · skip
                exact sub_
            · rw [e1, Bool.true_or] at hnx
              refine go_ ?_
              rw [hw3]
              refine c_round ⟨_, _, _, _, ?_, ?_, ?_, ⟨k + 1, hkl, rfl, by rw [hnx], rfl, rfl⟩⟩
              · omega
              · rfl
              · skip
                exact sub_
          · have hke : k = l.length := by omega
            subst hke
            have g2 : decide (((l.length : Nat) : Int) < ((sdsP l).length : Int)) = false := decide_eq_false (by rw [sdsP_len]; omega)
            rw [nmK_all]
            cases e1 : namedE (bs.getD i D.zero) l
            · have hno := nmUp_no e1
              refine go_ ?_
              rw [hw]
              refine c_round ⟨_, _, _, _, ?_, ?_, ?_, ⟨i + 1, hib, rfl, by rw [hno], rfl, rfl⟩⟩
              · omega
              · rfl
              · skip
                exact sub_
            · have hyes := nmUp_yes e1
              refine go_ ?_
              rw [hw, hw2]
              refine c_round ⟨_, _, _, _, ?_, ?_, ?_, ⟨i + 1, hib, rfl, by rw [hyes], rfl, rfl⟩⟩
              · omega
              · rfl
              · skip
                exact sub_
      · have hie : i = bs.length := by omega
        subst hie
        have g1 : decide (((bs.length : Nat) : Int) < ((dsP bs).length : Int)) = false := decide_eq_false (by rw [dsP_len]; omega)
        replace hfew : (whoE bs msg l).length ≤ nmUp bs l bs.length := hfew
        have hend : decide (((isP (whoE bs msg l)).length : Int) ≤ ((nmUp bs l bs.length : Nat) : Int)) = true := decide_eq_true (by rw [isP_len]; omega)
        cases e1 : decide (((nmUp bs l bs.length : Nat) : Int) ≥ need)
        · have hh : holdsE bs need msg l = false := by
            cases hh : holdsE bs need msg l with
            | false => rfl
            | true =>
              have := hhn hh
              have h9 := of_decide_eq_false e1
              omega
          rw [hh] at o1
          refine go_ ?_
          with_reducible apply run_y
          exact want_
          · intro K hK
            refine ev_ ?_
            refine vcCall_plain (s_awake45) (by kernel_rfl) ?_
            refine ev_ ?_
            exact hK
          refine go_ ?_
          rw [e1]
          refine go_ ?_
          with_reducible apply run_y
          exact want_
          · intro K hK
            refine ev_ ?_
            refine vcCall_plain (o1) (by kernel_rfl) ?_
            refine ev_ ?_
            exact hK
          refine go_ ?_
          with_reducible apply run_y
          exact want_
          · intro K hK
            refine ev_ ?_
            refine vcCall_plain (w1) (by kernel_rfl) ?_
            refine ev_ ?_
            exact hK
          refine go_ ?_
          refine ev_ ?_
          exact .mk (vb_eq (by rw [hend]; rfl)) trivial
        · skip
          refine go_ ?_
          with_reducible apply run_y
          exact want_
          · intro K hK
            refine ev_ ?_
            refine vcCall_plain (s_awake45) (by kernel_rfl) ?_
            refine ev_ ?_
            exact hK
          refine go_ ?_
          rw [e1]
          refine go_ ?_
          with_reducible apply run_y
          exact want_
          · intro K hK
            refine ev_ ?_
            refine vcCall_plain (w1) (by kernel_rfl) ?_
            refine ev_ ?_
            exact hK
          refine go_ ?_
          refine ev_ ?_
          exact .mk (vb_eq (by rw [hend]; rfl)) trivial
/-- Truth values. -/
def blP (l : List Bool) : List (List PV) := l.map fun b => [.v (.bool b)]
theorem blP_len (l : List Bool) : (blP l).length = l.length := List.length_map _
theorem blP_at {l : List Bool} {j : Nat} (h : j < l.length) : (blP l)[j]? = some [.v (.bool (l.getD j false))] := by simp [blP, List.getD, h]
def liesUp (lies : List Bool) (i : Nat) : Nat := (List.range i).countP fun i => lies.getD i false
theorem liesUp_yes {lies : List Bool} {i : Nat} (h : lies.getD i false = true) : liesUp lies (i + 1) = liesUp lies i + 1 := by
  unfold liesUp
  rw [List.range_succ, List.countP_append, List.countP_singleton, if_pos h]
theorem liesUp_no {lies : List Bool} {i : Nat} (h : lies.getD i false = false) : liesUp lies (i + 1) = liesUp lies i := by
  unfold liesUp
  rw [List.range_succ, List.countP_append, List.countP_singleton, if_neg (by rw [h]; decide)]; rfl
theorem liesUp_le (lies : List Bool) (i : Nat) : liesUp lies i ≤ i := by
  unfold liesUp
  have := List.countP_le_length (p := fun i => lies.getD i false) (l := List.range i)
  rwa [List.length_range] at this
theorem liesUp_far (lies : List Bool) : ∀ (d : Nat), liesUp lies (lies.length + d) = liesUp lies lies.length
  | 0 => rfl
  | d + 1 => by
    rw [← Nat.add_assoc, liesUp_no (by simp [List.getD]), liesUp_far lies d]
/-- Does one of the first j that agree not lie? -/
def hon (lies : List Bool) (w : List Nat) (j : Nat) : Bool := (List.range j).any fun i => decide (lies.length ≤ w.getD i 0) || !lies.getD (w.getD i 0) false
theorem hon_next (lies : List Bool) (w : List Nat) (j : Nat) : hon lies w (j + 1) = (hon lies w j || (decide (lies.length ≤ w.getD j 0) || !lies.getD (w.getD j 0) false)) := by
  unfold hon
  rw [List.range_succ, List.any_append]; simp
theorem hon_not {lies : List Bool} {w : List Nat} (h : hon lies w w.length = false) : ∀ i ∈ w, lies.getD i false = true := fun i hi => by
  obtain ⟨j, hj, rfl⟩ := List.mem_iff_getElem.1 hi
  unfold hon at h
  rw [List.any_eq_false] at h
  have := h j (List.mem_range.2 hj)
  rw [show w.getD j 0 = w[j] by rw [List.getD_eq_getElem?_getD, List.getElem?_eq_getElem hj]; rfl] at this
  cases hl : lies.getD w[j] false with
  | true => rfl
  | false => rw [hl] at this; simp at this
def shPol : Sh := .cons (.sl shD) (.cons (.int .i64) .nil)
theorem is_Pol {ps : List PV} (h : Is shPol ps) : ∃ (bs : List D) (need : Int), (Lit.int .i64 need).wf = true ∧ ps = polP bs need := by
  obtain ⟨x, y, ⟨es, h1, h2, rfl⟩, ⟨x2, y2, ⟨n, hn, rfl⟩, h5, rfl⟩, rfl⟩ := h
  obtain rfl : y2 = [] := h5
  obtain ⟨bs, rfl⟩ := is_ds h2
  exact ⟨bs, n, hn, rfl⟩
theorem isV_Pol {p : PV} (h : IsV (.st shPol) p) : ∃ (bs : List D) (need : Int), (Lit.int .i64 need).wf = true ∧ p = .agg (polP bs need) := by
  obtain ⟨ps, h1, rfl⟩ := h
  obtain ⟨bs, need, h2, rfl⟩ := is_Pol h1
  exact ⟨bs, need, h2, rfl⟩
theorem is_sds {es : List (List PV)} (h : ∀ e ∈ es, Is (.st shSd) e) : ∃ l : List Sd, es = sdsP l := all_of (fun _ h => is_Sd h) h
def shAsk : Sh := .cons (.st shPol) (.cons shD (.cons (.sl (.st shSd)) .nil))
theorem isV_Ask {p : PV} (h : IsV (.st shAsk) p) : ∃ (bs : List D) (need : Int) (msg : D) (l : List Sd), (Lit.int .i64 need).wf = true ∧ p = .agg (askP bs need msg l) := by
  obtain ⟨ps, ⟨x, y, h1, ⟨x2, y2, h2, ⟨x3, y3, ⟨es, h3, h4, rfl⟩, h5, rfl⟩, rfl⟩, rfl⟩, rfl⟩ := h
  obtain rfl : y3 = [] := h5
  obtain ⟨bs, need, hn, rfl⟩ := is_Pol h1
  obtain ⟨msg, rfl⟩ := is_D h2
  obtain ⟨l, rfl⟩ := is_sds h4
  exact ⟨bs, need, msg, l, hn, rfl⟩
theorem is_bls {es : List (List PV)} (h : ∀ e ∈ es, Is .bool e) : ∃ l : List Bool, es = blP l := all_of (fun _ h => by
  obtain ⟨b, rfl⟩ := h
  exact ⟨b, rfl⟩) h
theorem quorumRights_walk (q0 : PV) (v0 : Value) (w : World) (hP : Places w) (i0 : IsV (.st shPol) q0) (r0 : Rep (allOf w) q0 v0) : Calls Tryd.prog 3 #[v0] w fun e w' => e = .returned (.bool true) ∧ Grow w w' := by
  obtain ⟨bs, need, -, rfl⟩ := isV_Pol i0
  exact walk_of (s_quorumRights bs need) hP (args1 r0)
theorem quorumTells_walk (q0 : PV) (v0 : Value) (w : World) (hP : Places w) (i0 : IsV (.st shAsk) q0) (r0 : Rep (allOf w) q0 v0) : Calls Tryd.prog 4 #[v0] w fun e w' => e = .returned (.bool true) ∧ Grow w w' := by
  obtain ⟨bs, need, msg, l, -, rfl⟩ := isV_Ask i0
  exact walk_of (s_quorumTells bs need msg l) hP (args1 r0)
theorem quorumFew_walk (q0 : PV) (v0 : Value) (w : World) (hP : Places w) (i0 : IsV (.st shAsk) q0) (r0 : Rep (allOf w) q0 v0) : Calls Tryd.prog 5 #[v0] w fun e w' => e = .returned (.bool true) ∧ Grow w w' := by
  obtain ⟨bs, need, msg, l, -, rfl⟩ := isV_Ask i0
  exact walk_of (s_quorumFew bs need msg l) hP (args1 r0)
end Go.Proofs.YtjokaennipmmaaaDoor
