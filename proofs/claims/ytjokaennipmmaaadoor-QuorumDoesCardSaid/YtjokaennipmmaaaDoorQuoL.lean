import Derived.Test.YtjokaennipmmaaaDoorQuoB
import Derived.Test.YtjokaennipmmaaaDoorPubP
import Derived.Test.YtjokaennipmmaaaDoorPubQ
/- What the laws of quorums lean on: enough agree, signing, asking, comparing; the fixed fact. -/
namespace Go.Proofs.YtjokaennipmmaaaDoor
open Go.RowKit
set_option linter.unnecessarySimpa false
set_option maxRecDepth 100000 in
set_option maxHeartbeats 2000000 in
theorem s_qholds (bs : List D) (need : Int) (msg : D) (l : List Sd) (hb : bs.length ≤ 1000000) (hl : l.length ≤ 1000000) (hs : ∀ s ∈ l, s.2.2.2.length ≤ 1000000) : Spec (Ctx.mk Tryd.prog globX (0 + 1) Places) 19 [.agg (polP bs need), .agg (dP msg), .sl .any (sdsP l)] [] (.v (.bool (holdsE bs need msg l))) [] := by
  have q1 := s_qright bs need hb
  have q2 := s_who bs need msg l hb hl hs
  have hq : holdsE bs need msg l = (qrightE bs need && decide (((isP (whoE bs msg l)).length : Int) ≥ need)) := by rw [isP_len]; rfl
  rw [hq]
  generalize whoE bs msg l = k at *
  refine spec_of_bodyL CX_mixed CX_gpk Tryd.func19 rfl 19 0 rfl rfl rfl rfl ?_
  refine go_ ?_
  with_reducible apply run_y
  exact want_
  · intro K hK
    refine ev_ ?_
    refine vcCall_plain (q1) (by kernel_rfl) ?_
    refine ev_ ?_
    exact hK
  refine go_ ?_
  cases e1 : qrightE bs need
  · skip
    refine go_ ?_
    refine ev_ ?_
    exact .mk (by rfl) trivial
  · skip
    refine go_ ?_
    with_reducible apply run_y
    exact want_
    · intro K hK
      refine ev_ ?_
      refine vcCall_plain (q2) (by kernel_rfl) ?_
      refine ev_ ?_
      exact hK
    refine go_ ?_
    refine ev_ ?_
    exact .mk (by rfl) trivial
def signedE (seed msg : D) : Sd := (kpubE seed 0, ksignE seed 0 0 msg)
theorem signed_path (seed msg : D) : (signedE seed msg).2.2.2.length = 0 := ksign_path seed _ (by decide)
theorem signed_check (seed msg : D) : kcheckE (signedE seed msg).1 msg (signedE seed msg).2 = true := kcheck_sign seed _ (by decide) (by decide)
set_option maxRecDepth 100000 in
theorem s_sign45 (seed msg : D) : Spec (Ctx.mk Tryd.prog globX (0 + 1) Places) 21 [.agg (dP seed), .agg (dP msg)] [] (.agg (sdP (signedE seed msg))) [] := by
  have hh : 0 ≤ (0 : Int) ∧ (0 : Int) ≤ 4 := by decide
  have q1 := s_rkpublic_ok (seed := seed) hh
  have q2 := s_rksign_ok (seed := seed) (msg := msg) (i := 0) hh ⟨by omega, by decide⟩
  replace q1 : Spec (Ctx.mk Tryd.prog globX (0 + 1) Places) 25 [.agg (dP seed), .v (.int .i64 0)] [] (.tup [.agg (dP (kpubE seed 0)), .v (.int .i64 0)]) [] := q1
  replace q2 : Spec (Ctx.mk Tryd.prog globX (0 + 1) Places) 26 [.agg (dP seed), .v (.int .i64 0), .v (.int .i64 0), .agg (dP msg)] [] (.tup [.agg (sgP (ksignE seed 0 0 msg)), .v (.int .i64 0)]) [] := q2
  unfold signedE
  generalize kpubE seed 0 = pub at *
  generalize ksignE seed 0 0 msg = sg at *
  obtain ⟨j, one, path⟩ := sg
  refine spec_of_bodyL CX_mixed CX_gpk Tryd.func21 rfl 23 0 rfl rfl rfl rfl ?_
  refine go_ ?_
  with_reducible apply run_y
  exact want_
  · intro K hK
    refine ev_ ?_
    refine vcCall_plain (q1) (by kernel_rfl) ?_
    refine ev_ ?_
    exact hK
  refine go_ ?_
  with_reducible apply run_y
  exact want_
  · intro K hK
    refine ev_ ?_
    refine vcCall_plain (q2) (by kernel_rfl) ?_
    refine ev_ ?_
    exact hK
  refine go_ ?_
  refine ev_ ?_
  exact .mk (by rfl) trivial
set_option maxRecDepth 100000 in
set_option maxHeartbeats 1000000 in
theorem s_ints (a b : List Nat) (ha : a.length ≤ 1000000) : Spec (Ctx.mk Tryd.prog globX (0 + 1) Places) 16 [.sl .any (isP a), .sl .any (isP b)] [] (.v (.bool (decide (a = b)))) [] := by
  refine spec_of_bodyL CX_mixed CX_gpk Tryd.func16 rfl 26 0 rfl rfl rfl rfl ?_
  refine go_ ?_
  first | refine run_b rfl rfl rfl (fun h => ?_) (fun h => ?_) | refine c_cond rfl (fun h => ?_) (fun h => ?_)
  · have hne : a ≠ b := by rintro rfl; simp at h
    rw [decide_eq_false hne]
    refine go_ ?_
    refine ev_ ?_
    exact .mk (by rfl) trivial
  · have hl : a.length = b.length := by simp [isP_len] at h; omega
    refine go_ ?_
    refine c_loop (fun k q m h => ∃ j : Nat, j ≤ a.length ∧ k = a.length - j ∧ q = [.sl .any (isP a), .sl .any (isP b), .top, .top, .v (.bool false), .v (.int .i64 (j : Int))] ++ List.replicate 20 .top ∧ m = 1 ∧ h = [] ∧ ∀ i, i < j → a.getD i 0 = b.getD i 0)
      ⟨_, _, _, _, ?_, ?_, ⟨0, by omega, rfl, rfl, rfl, rfl, fun i hi => by omega⟩⟩ ?_
    · rfl
    · skip
      exact sub_
    · rintro k q m h hlen ⟨j, hj, rfl, rfl, rfl, rfl, hb⟩
      clear hlen
      refine go_ ?_
      first | refine run_b rfl rfl rfl (fun h => ?_) (fun h => ?_) | refine c_cond rfl (fun h => ?_) (fun h => ?_)
      · have hj' : j < a.length := by simpa [isP_len] using h
        have hjb : j < b.length := by omega
        have hw : IntKind.i64.wrap ((j : Int) + 1) = ((j + 1 : Nat) : Int) := by rw [wrap64 (by omega) (by omega)]; omega
        have hata := isP_at hj'
        have hatb := isP_at hjb
        refine go_ ?_
        with_reducible apply run_y
        exact want_
        · intro K hK
          refine ev_ ?_
          refine ⟨j, _, rfl, hata, rfl, ?_⟩
          refine ev_ ?_
          exact hK
        refine go_ ?_
        with_reducible apply run_y
        exact want_
        · intro K hK
          refine ev_ ?_
          refine ⟨j, _, rfl, hatb, rfl, ?_⟩
          refine ev_ ?_
          exact hK
        refine go_ ?_
        first | refine run_b rfl rfl rfl (fun he => ?_) (fun he => ?_) | refine c_cond rfl (fun he => ?_) (fun he => ?_)
        · have hne : a ≠ b := by rintro rfl; simp at he
          rw [decide_eq_false hne]
          refine go_ ?_
          refine ev_ ?_
          exact .mk (by rfl) trivial
        · have he' : a.getD j 0 = b.getD j 0 := by
            have h2 : ((a.getD j 0 : Nat) : Int) = ((b.getD j 0 : Nat) : Int) := by simpa using he
            exact Int.ofNat.inj h2
          refine go_ ?_
          rw [hw]
          refine c_round ⟨_, _, _, _, ?_, ?_, ?_, ⟨j + 1, by omega, rfl, rfl, rfl, rfl, fun i hi => ?_⟩⟩
          · omega
          · rfl
          · skip
            exact sub_
          · by_cases hij : i = j
            · rw [hij]; exact he'
            · exact hb i (by omega)
      · have hj' : j = a.length := by have : ¬ (j < a.length) := by simpa [isP_len] using h
                                      omega
        subst hj'
        have he : a = b := by
          apply List.ext_getElem hl
          intro i h1 h2
          have := hb i h1
          simpa [List.getD, h1, h2] using this
        rw [decide_eq_true he]
        refine go_ ?_
        refine ev_ ?_
        exact .mk (by rfl) trivial
/-- A policy, a message, signatures. -/
def askP (bs : List D) (need : Int) (msg : D) (l : List Sd) : List PV := [.sl .any (dsP bs), .v (.int .i64 need), .v (u (msg.1.getD 0 0)), .v (u (msg.1.getD 1 0)), .v (u (msg.1.getD 2 0)), .v (u (msg.1.getD 3 0)), .sl .any (sdsP l)]
def shortB (s : Sd) : Bool := decide (s.2.2.1.length ≤ 40) && decide (s.2.2.2.length ≤ 8)
def smE (bs : List D) (l : List Sd) : Bool := decide (bs.length ≤ 8) && decide (l.length ≤ 8) && l.all shortB
theorem sm_spec {bs : List D} {l : List Sd} (h : smE bs l = true) : bs.length ≤ 8 ∧ l.length ≤ 8 ∧ ∀ s ∈ l, s.2.2.2.length ≤ 1000000 := by
  unfold smE at h
  simp only [Bool.and_eq_true, decide_eq_true_eq, List.all_eq_true] at h
  refine ⟨h.1.1, h.1.2, fun s hs => ?_⟩
  have := h.2 s hs
  unfold shortB at this
  simp only [Bool.and_eq_true, decide_eq_true_eq] at this
  omega
theorem sm_long {bs : List D} {l : List Sd} {i : Nat} (hi : i < l.length) (h : shortB (l.getD i zeroSd) = false) : smE bs l = false := by
  unfold smE
  have : l.all shortB = false := by
    rw [List.all_eq_false]
    exact ⟨_, sd_mem hi, by rw [h]; decide⟩
  rw [this, Bool.and_false]
set_option maxRecDepth 100000 in
set_option maxHeartbeats 2000000 in
theorem s_small45 (bs : List D) (need : Int) (msg : D) (l : List Sd) : Spec (Ctx.mk Tryd.prog globX (0 + 1) Places) 15 [.agg (askP bs need msg l)] [] (.v (.bool (smE bs l))) [] := by
  have hlen := sdsP_len l
  refine spec_of_bodyL CX_mixed CX_gpk Tryd.func15 rfl 46 0 rfl rfl rfl rfl ?_
  refine go_ ?_
  refine c_loop (fun f q m h => ∃ j : Nat, j ≤ l.length ∧ j ≤ 9 ∧ (∀ i, i < j → shortB (l.getD i zeroSd) = true) ∧ f = l.length - j ∧ q = [.top, .ptr 1 0, .v (.bool false), .v (.int .i64 (j : Int))] ++ List.replicate 42 .top ∧ m = 2 ∧ h = [(1, .cells (askP bs need msg l))])
    ⟨_, _, _, _, ?_, ?_, ⟨0, Nat.zero_le _, Nat.zero_le _, fun i hi => by omega, rfl, rfl, rfl, rfl⟩⟩ ?_
  · rfl
  · skip
    exact sub_
  · rintro f q m h hlen2 ⟨j, hj, hj9, hn, rfl, rfl, rfl, rfl⟩
    clear hlen2
    by_cases h1 : j < l.length ∧ j ≤ 8
    · obtain ⟨h1, h8⟩ := h1
      have g1 : decide ((j : Int) < ((sdsP l).length : Int)) = true := decide_eq_true (by rw [hlen]; omega)
      have g2 : decide ((j : Int) ≤ 8) = true := decide_eq_true (by omega)
      have hcd : (bif decide ((j : Int) < ((sdsP l).length : Int)) then decide ((j : Int) ≤ 8) else false) = true := by rw [g1, g2]; rfl
      have hw : IntKind.i64.wrap ((j : Int) + 1) = ((j + 1 : Nat) : Int) := by rw [wrap64 (by omega) (by omega)]; omega
      have hat := sdsP_at h1
      have hlong := sm_long (bs := bs) h1
      have hnext : shortB (l.getD j zeroSd) = true → ∀ i, i < j + 1 → shortB (l.getD i zeroSd) = true := fun h i hi => by
        by_cases e : i = j
        · subst e; exact h
        · exact hn i (by omega)
      generalize l.getD j zeroSd = s at *
      obtain ⟨sb, si, so, sp⟩ := s
      have hsh : shortB (sb, si, so, sp) = (!decide (((dsP so).length : Int) > 40) && !decide (((dsP sp).length : Int) > 8)) := by
        unfold shortB
        rw [dsP_len, dsP_len, Bool.eq_iff_iff]
        simp
        omega
      rw [hsh] at hlong hnext
      refine go_ ?_
      with_reducible apply run_y
      exact want_
      · intro K hK
        refine ev_ ?_
        refine ⟨j, _, rfl, hat, rfl, ?_⟩
        refine ev_ ?_
        exact hK
      refine go_ ?_
      cases c1 : decide (((dsP so).length : Int) > 40)
      case true =>
        rw [hlong (by rw [c1]; rfl)]
        refine go_ ?_
        refine ev_ ?_
        exact .mk (by rfl) trivial
      case false =>
        rw [c1] at hlong hnext
        refine go_ ?_
        with_reducible apply run_y
        exact want_
        · intro K hK
          refine ev_ ?_
          refine ⟨j, _, rfl, hat, rfl, ?_⟩
          refine ev_ ?_
          exact hK
        refine go_ ?_
        cases c2 : decide (((dsP sp).length : Int) > 8)
        case true =>
          rw [hlong (by rw [c2]; rfl)]
          refine go_ ?_
          refine ev_ ?_
          exact .mk (by rfl) trivial
        case false =>
          replace hnext := hnext (by rw [c2]; rfl)
          refine go_ ?_
          rw [hw]
          refine c_round ⟨_, _, _, _, ?_, ?_, ?_, ⟨j + 1, h1, by omega, hnext, rfl, rfl, rfl, rfl⟩⟩
          · omega
          · rfl
          · skip
            exact sub_
    · have hcd : (bif decide ((j : Int) < ((sdsP l).length : Int)) then decide ((j : Int) ≤ 8) else false) = false := by
        rw [hlen]
        by_cases e : j < l.length
        · rw [decide_eq_true (by omega : (j : Int) < (l.length : Int)), decide_eq_false (by omega : ¬ (j : Int) ≤ 8)]; rfl
        · rw [decide_eq_false (by omega : ¬ (j : Int) < (l.length : Int))]; rfl
      have hq : smE bs l = (decide (((dsP bs).length : Int) ≤ 8) && decide (((sdsP l).length : Int) ≤ 8)) := by
        unfold smE
        rw [dsP_len, hlen]
        by_cases e : l.length ≤ 8
        · have hall : l.all shortB = true := by
            rw [List.all_eq_true]
            intro s hs
            obtain ⟨i, hi, rfl⟩ := List.mem_iff_getElem.1 hs
            have := hn i (by omega)
            rwa [show l.getD i zeroSd = l[i] by rw [List.getD_eq_getElem?_getD, List.getElem?_eq_getElem hi]; rfl] at this
          rw [hall, Bool.and_true, Bool.eq_iff_iff]
          simp
          omega
        · rw [decide_eq_false e, decide_eq_false (by omega : ¬ (l.length : Int) ≤ 8)]
          simp
      rw [hq]
      cases g1 : decide ((j : Int) < ((sdsP l).length : Int))
      all_goals
        refine go_ ?_
        cases c1 : decide (((dsP bs).length : Int) ≤ 8)
        · skip
          refine go_ ?_
          refine ev_ ?_
          exact .mk (vb_eq (by simp)) trivial
        · skip
          refine go_ ?_
          refine ev_ ?_
          exact .mk (vb_eq (by simp)) trivial
theorem kpub_zero (seed : D) : kpubE seed 0 = publicE (kseedE seed 0) := by
  unfold kpubE keysE
  show rootE noneE [publicE (kseedE seed 0)] = _
  unfold rootE
  rw [dif_neg (by simp)]; rfl
def msg9 : D := ⟨[9, 0, 0, 0], rfl⟩
set_option maxRecDepth 100000 in
set_option maxHeartbeats 4000000 in
theorem s_awake45 : Spec (Ctx.mk Tryd.prog globX (0 + 1) Places) 10 [] [] (.v (.bool true)) [] := by
  have q1 := s_sign45 seedP msg9
  have q2 := s_sign45 seedQ msg9
  have hp1 := signed_path seedP msg9
  have hp2 := signed_path seedQ msg9
  have hc2 := signed_check seedQ msg9
  have hne : (signedE seedP msg9).1 ≠ (signedE seedQ msg9).1 := by
    show kpubE seedP 0 ≠ kpubE seedQ 0
    rw [kpub_zero, kpub_zero, pubP_eq, pubQ_eq]
    decide
  generalize signedE seedP msg9 = s at *
  generalize signedE seedQ msg9 = t at *
  have hw : whoE [s.1, t.1] msg9 [t] = [1] := by
    have h0 : agreesE s.1 msg9 [t] = false := by simp [agreesE, Ne.symm hne]
    have h1 : agreesE t.1 msg9 [t] = true := by simp [agreesE, hc2]
    show (List.range 2).filter _ = [1]
    simp [List.range_succ, h0, h1]
  have hr : qrightE [s.1, t.1] 1 = true := qright_yes (by simp) (fun a b ha hb => by
    have ha' : a < 2 := ha
    obtain ⟨rfl, rfl⟩ : a = 1 ∧ b = 0 := by omega
    exact hne.symm)
  have hr2 : qrightE [] 0 = false := qright_no (by decide)
  have h1 : holdsE [s.1, t.1] 1 msg9 [t] = true := by unfold holdsE; rw [hr, hw]; rfl
  have h2 : holdsE [s.1, t.1] 2 msg9 [t] = false := by unfold holdsE; rw [hw]; simp
  have hs : ∀ x ∈ [t], x.2.2.2.length ≤ 1000000 := fun x hx => by
    obtain rfl := List.mem_singleton.1 hx
    omega
  have w1 := s_who [s.1, t.1] 1 msg9 [t] (by simp) (by simp) hs
  have r1 := s_qright [s.1, t.1] 1 (by simp)
  have r2 := s_qright [] 0 (by simp)
  have o1 := s_qholds [s.1, t.1] 1 msg9 [t] (by simp) (by simp) hs
  have o2 := s_qholds [s.1, t.1] 2 msg9 [t] (by simp) (by simp) hs
  have b1 := s_bad [s.1, t.1] 2
  rw [show IntKind.i64.wrap (2 - 1) = 1 by decide] at b1
  have hl1 : (((isP [1]).length : Int) == 1) = true := by rw [isP_len]; rfl
  rw [hw] at w1
  rw [hr] at r1
  rw [hr2] at r2
  rw [h1] at o1
  rw [h2] at o2
  clear hp1 hp2 hc2 hne hw hr hr2 h1 h2 hs
  obtain ⟨sb, si, so, sp⟩ := s
  obtain ⟨tb, ti, tq, tp⟩ := t
  refine spec_of_bodyL CX_mixed CX_gpk Tryd.func10 rfl 64 0 rfl rfl rfl rfl ?_
  refine go_ ?_
  with_reducible apply run_y
  exact want_
  · intro K hK
    refine ev_ ?_
    refine vcCall_plain (q1) (by kernel_rfl) ?_
    refine ev_ ?_
    exact hK
  refine go_ ?_
  with_reducible apply run_y
  exact want_
  · intro K hK
    refine ev_ ?_
    refine vcCall_plain (q2) (by kernel_rfl) ?_
    refine ev_ ?_
    exact hK
  refine go_ ?_
  with_reducible apply run_y
  exact want_
  · intro K hK
    refine ev_ ?_
    refine vcCall_plain (w1) (by kernel_rfl) ?_
    refine ev_ ?_
    exact hK
  refine go_ ?_
  with_reducible apply run_y
  exact want_
  · intro K hK
    refine ev_ ?_
    refine vcCall_plain (r1) (by kernel_rfl) ?_
    refine ev_ ?_
    exact hK
  refine go_ ?_
  with_reducible apply run_y
  exact want_
  · intro K hK
    refine ev_ ?_
    refine vcCall_plain (r2) (by kernel_rfl) ?_
    refine ev_ ?_
    exact hK
  refine go_ ?_
  with_reducible apply run_y
  exact want_
  · intro K hK
    refine ev_ ?_
    refine vcCall_plain (o1) (by kernel_rfl) ?_
    refine ev_ ?_
    exact hK
  refine go_ ?_
  with_reducible apply run_y
  exact want_
  · intro K hK
    refine ev_ ?_
    refine vcCall_plain (o2) (by kernel_rfl) ?_
    refine ev_ ?_
    exact hK
  refine go_ ?_
  rw [hl1]
  refine go_ ?_
  with_reducible apply run_y
  exact want_
  · intro K hK
    refine ev_ ?_
    refine ⟨0, _, rfl, isP_at (by simp), rfl, ?_⟩
    refine ev_ ?_
    exact hK
  refine go_ ?_
  with_reducible apply run_y
  exact want_
  · intro K hK
    refine ev_ ?_
    refine vcCall_plain (b1) (by kernel_rfl) ?_
    refine ev_ ?_
    exact hK
  refine go_ ?_
  refine ev_ ?_
  exact .mk (vb_eq (by simp)) trivial
end Go.Proofs.YtjokaennipmmaaaDoor
