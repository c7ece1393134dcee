import Derived.Test.YtjokaennipmmaaaDoorLQ4
/- The law QuorumDoes. -/
namespace Go.Proofs.YtjokaennipmmaaaDoor
open Go.RowKit
set_option linter.unnecessarySimpa false
/-- The keys of the first i builders, and the signatures of those from a on. -/
def kysE (S : Nat → Sd) (i : Nat) : List D := (List.range i).map fun j => (S j).1
def sgsE (S : Nat → Sd) (a i : Nat) : List Sd := (List.range' a (i - a)).map S
theorem kysE_len (S : Nat → Sd) (i : Nat) : (kysE S i).length = i := by simp [kysE]
theorem kysE_next (S : Nat → Sd) (i : Nat) : kysE S (i + 1) = kysE S i ++ [(S i).1] := by
  unfold kysE
  rw [List.range_succ, List.map_append]; rfl
theorem sgsE_len (S : Nat → Sd) (a i : Nat) : (sgsE S a i).length = i - a := by simp [sgsE]
theorem sgsE_nil (S : Nat → Sd) {a i : Nat} (h : i ≤ a) : sgsE S a i = [] := by
  unfold sgsE
  rw [show i - a = 0 by omega]; rfl
theorem sgsE_no (S : Nat → Sd) {a i : Nat} (h : i < a) : sgsE S a (i + 1) = sgsE S a i := by
  rw [sgsE_nil S (by omega), sgsE_nil S (by omega)]
theorem sgsE_yes (S : Nat → Sd) {a i : Nat} (h : a ≤ i) : sgsE S a (i + 1) = sgsE S a i ++ [S i] := by
  unfold sgsE
  rw [show i + 1 - a = (i - a) + 1 by omega, List.range'_concat, List.map_append]
  simp [show a + (i - a) = i by omega]
theorem sgsE_tail (S : Nat → Sd) {a i : Nat} (h : a < i) : (sgsE S a i).drop 1 = sgsE S (a + 1) i := by
  unfold sgsE
  rw [show i - a = (i - (a + 1)) + 1 by omega, List.range'_succ]
  simp
theorem sgsE_mem {S : Nat → Sd} {a i : Nat} {s : Sd} (h : s ∈ sgsE S a i) : ∃ j, s = S j := by
  unfold sgsE at h
  obtain ⟨j, _, rfl⟩ := List.mem_map.1 h
  exact ⟨j, rfl⟩
def seedAt (i : Nat) : D := ⟨[UInt32.ofNat i, 7, 0, 0], rfl⟩
set_option maxRecDepth 100000 in
set_option maxHeartbeats 8000000 in
theorem s_quorumDoes (msg : D) (nb eb : Nat) (heb : eb ≤ 255) : Spec (Ctx.mk Tryd.prog globX (0 + 1) Places) 7 [.agg (dP msg), .v (.int .u8 (nb : Int)), .v (.int .u8 (eb : Int))] [] (.v (.bool true)) [] := by
  obtain ⟨m0, hm0⟩ : ∃ m0, m0 = 1 + nb % 4 := ⟨_, rfl⟩
  obtain ⟨need, hneed⟩ : ∃ need, need = 1 + eb % m0 := ⟨_, rfl⟩
  have hm1 : 1 ≤ m0 ∧ m0 ≤ 4 := by have := Nat.mod_lt nb (show 0 < 4 by decide); omega
  have hn1 : 1 ≤ need ∧ need ≤ m0 := by have := Nat.mod_lt eb (show 0 < m0 by omega); omega
  have c1 : IntKind.i64.wrap ((nb : Int).tmod 4) = ((nb % 4 : Nat) : Int) := by
    rw [show (nb : Int).tmod 4 = ((nb % 4 : Nat) : Int) from rfl, wrap64 (by omega) (by omega)]
  have c2 : IntKind.i64.wrap (1 + ((nb % 4 : Nat) : Int)) = (m0 : Int) := by rw [wrap64 (by omega) (by omega)]; omega
  have c3 : IntKind.i64.wrap (eb : Int) = (eb : Int) := wrap64 (by omega) (by omega)
  have c4 : (eb : Int).tmod (m0 : Int) = ((eb % m0 : Nat) : Int) := rfl
  have c5 : IntKind.i64.wrap (1 + ((eb % m0 : Nat) : Int)) = (need : Int) := by
    have := Nat.mod_lt eb (show 0 < m0 by omega)
    rw [wrap64 (by omega) (by omega)]; omega
  have c6 : (m0 : Int) ≠ 0 := by omega
  have hcm : IntKind.i64.wrap ((m0 : Int) - (need : Int)) = ((m0 - need : Nat) : Int) := by rw [wrap64 (by omega) (by omega)]; omega
  obtain ⟨S, hS⟩ : ∃ S : Nat → Sd, S = fun i => signedE (seedAt i) msg := ⟨_, rfl⟩
  have hSs : ∀ i, Spec (Ctx.mk Tryd.prog globX (0 + 1) Places) 21 [.agg (dP (seedAt i)), .agg (dP msg)] [] (.agg (sdP (S i))) [] := fun i => by rw [hS]; exact s_sign45 (seedAt i) msg
  have hSp : ∀ i, (S i).2.2.2.length = 0 := fun i => by rw [hS]; exact signed_path (seedAt i) msg
  have hSc : ∀ i, kcheckE (S i).1 msg (S i).2 = true := fun i => by rw [hS]; exact signed_check (seedAt i) msg
  clear hS
  have hall : ∀ a, ∀ s ∈ sgsE S a m0, s.2.2.2.length ≤ 1000000 := fun a s hs => by
    obtain ⟨j, rfl⟩ := sgsE_mem hs
    rw [hSp]; omega
  refine spec_of_bodyL CX_mixed CX_gpk Tryd.func7 rfl 80 0 rfl rfl rfl rfl ?_
  refine go_ ?_
  rw [c1]
  refine go_ ?_
  rw [c2, c3]
  refine go_ ?_
  rw [c4, c5]
  refine go_ ?_
  refine c_loop (fun f q m h => ∃ (i : Nat) (κ : K), i ≤ m0 ∧ f = m0 - i ∧ q = [.top, .top, .top, .ptr 1 0, .top, .top, .v (.bool false), .v (.int .i64 (m0 : Int)), .ptr 2 0, .sl κ (sdsP (sgsE S (m0 - need) i)), .v (.int .i64 (i : Int))] ++ List.replicate 69 .top ∧
          ((i = 0 ∧ κ = .full ∧ m = 3 ∧ h = [(1, .cells (dP msg)), (2, .cells [.sl .full (dsP (kysE S i)), .v (.int .i64 (need : Int))])]) ∨ (0 < i ∧ i ≤ m0 - need ∧ κ = .full ∧ m = 5 ∧ h = [(1, .cells (dP msg)), (2, .cells [.sl (.own 4) (dsP (kysE S i)), .v (.int .i64 (need : Int))]), (4, .row (dsP (kysE S i)).length 30)]) ∨ (0 < i ∧ m0 - need ≤ i ∧ κ = .own 5 ∧ m = 6 ∧ h = [(1, .cells (dP msg)), (2, .cells [.sl (.own 4) (dsP (kysE S i)), .v (.int .i64 (need : Int))]), (4, .row (dsP (kysE S i)).length 30), (5, .row (sdsP (sgsE S (m0 - need) i)).length 43)]) ∨ (0 < i ∧ m0 - need ≤ i ∧ κ = .own 6 ∧ m = 7 ∧ h = [(1, .cells (dP msg)), (2, .cells [.sl (.own 4) (dsP (kysE S i)), .v (.int .i64 (need : Int))]), (4, .row (dsP (kysE S i)).length 30), (6, .row (sdsP (sgsE S (m0 - need) i)).length 43)])))
    ⟨_, _, _, _, ?_, ?_, ⟨0, .full, Nat.zero_le _, rfl, by rw [sgsE_nil S (Nat.zero_le _)], .inl ⟨rfl, rfl, rfl, rfl⟩⟩⟩ ?_
  · rfl
  · skip
    exact sub_
  · rintro f q m h hlen2 ⟨i, κ, hi, rfl, rfl, hc⟩
    clear hlen2
    by_cases him : i < m0
    · have g1 : decide ((i : Int) < (m0 : Int)) = true := decide_eq_true (by omega)
      have hw : IntKind.i64.wrap ((i : Int) + 1) = ((i + 1 : Nat) : Int) := by rw [wrap64 (by omega) (by omega)]; omega
      have hcw : IntKind.u32.wrap (i : Int) = (((UInt32.ofNat i).toNat : Nat) : Int) := by
        rw [UInt32.toNat_ofNat', Nat.mod_eq_of_lt (by omega)]
        show (i : Int) % 4294967296 = _
        exact Int.emod_eq_of_lt (by omega) (by omega)
      have hsg := hSs i
      have hky := kysE_next S i
      have hkl := kysE_len S i
      have hsl := sgsE_len S (m0 - need) i
      generalize hsk : S i = s at *
      obtain ⟨sb, si, so, sp⟩ := s
      rcases hc with ⟨rfl, rfl, rfl, rfl⟩ | ⟨hi0, hi1, rfl, rfl, rfl⟩ | ⟨hi0, hi1, rfl, rfl, rfl⟩ | ⟨hi0, hi1, rfl, rfl, rfl⟩
      · rw [sgsE_nil S (Nat.zero_le _)]
        refine go_ ?_
        rw [hcw]
        refine go_ ?_
        with_reducible apply run_y
        exact want_
        · intro K hK
          refine ev_ ?_
          refine vcCall_plain (hsg) (by kernel_rfl) ?_
          refine ev_ ?_
          exact hK
        refine go_ ?_
        with_reducible apply run_y
        exact want_
        · intro K hK
          refine ev_ ?_
          refine ⟨dsP ([] ++ [sb]), dsP_app [] [sb], appOk_ds (l := []) (l' := [sb]) rfl rfl rfl (by simp), ?_⟩
          conv => whnf
          refine Or.inl ?_
          refine ev_ ?_
          exact hK
        refine go_ ?_
        rw [hcm]
        cases g3 : decide (((0 : Nat) : Int) ≥ ((m0 - need : Nat) : Int))
        case false =>
          have hno := sgsE_no S (a := m0 - need) (i := 0) (by have := of_decide_eq_false g3; omega)
          have hlt : 0 < m0 - need := by have := of_decide_eq_false g3; omega
          refine go_ ?_
          rw [hw]
          refine c_round ⟨_, _, _, _, ?_, ?_, ?_, ⟨0 + 1, .full, by omega, rfl, by rw [hno, sgsE_nil S (Nat.zero_le _)], .inr (.inl ⟨by omega, by omega, rfl, rfl, by rw [hky]⟩)⟩⟩
          · omega
          · rfl
          · skip
            exact sub_
        case true =>
          have hle : m0 - need ≤ 0 := by have := of_decide_eq_true g3; omega
          have hyes := sgsE_yes S hle
          rw [hsk] at hyes
          have hnil : sgsE S (m0 - need) 0 = [] := sgsE_nil S (by omega)
          rw [hnil] at hyes
          refine go_ ?_
          with_reducible apply run_y
          exact want_
          · intro K hK
            refine ev_ ?_
            refine ⟨sdsP ([] ++ [(sb, si, so, sp)]), sdsP_app [] [(sb, si, so, sp)], appOk_sds (l := []) (l' := [(sb, si, so, sp)]) rfl rfl rfl (by simp), ?_⟩
            conv => whnf
            refine Or.inl ?_
            refine ev_ ?_
            exact hK
          refine go_ ?_
          rw [hw]
          refine c_round ⟨_, _, _, _, ?_, ?_, ?_, ⟨0 + 1, .own 5, by omega, rfl, by rw [hyes], .inr (.inr (.inl ⟨by omega, by omega, rfl, rfl, by rw [hky, hyes]⟩))⟩⟩
          · omega
          · rfl
          · skip
            exact sub_
      · skip
        refine go_ ?_
        rw [hcw]
        refine go_ ?_
        with_reducible apply run_y
        exact want_
        · intro K hK
          refine ev_ ?_
          refine vcCall_plain (hsg) (by kernel_rfl) ?_
          refine ev_ ?_
          exact hK
        refine go_ ?_
        with_reducible apply run_y
        exact want_
        · intro K hK
          refine ev_ ?_
          refine ⟨dsP (kysE S i ++ [sb]), dsP_app _ [sb], appOk_ds (l' := [sb]) rfl rfl rfl (by simp; omega), ?_⟩
          refine ev_ ?_
          exact hK
        refine go_ ?_
        rw [hcm]
        cases g3 : decide (((i : Nat) : Int) ≥ ((m0 - need : Nat) : Int))
        case false =>
          have hno := sgsE_no S (a := m0 - need) (i := i) (by have := of_decide_eq_false g3; omega)
          have hlt : i < m0 - need := by have := of_decide_eq_false g3; omega
          refine go_ ?_
          rw [hw]
          refine c_round ⟨_, _, _, _, ?_, ?_, ?_, ⟨i + 1, .full, by omega, rfl, by rw [hno], .inr (.inl ⟨by omega, by omega, rfl, rfl, by rw [hky]⟩)⟩⟩
          · omega
          · rfl
          · skip
            exact sub_
        case true =>
          have hle : m0 - need ≤ i := by have := of_decide_eq_true g3; omega
          have hyes := sgsE_yes S hle
          rw [hsk] at hyes
          have hnil : sgsE S (m0 - need) i = [] := sgsE_nil S (by omega)
          rw [hnil] at hyes
          rw [hnil]
          refine go_ ?_
          with_reducible apply run_y
          exact want_
          · intro K hK
            refine ev_ ?_
            refine ⟨sdsP ([] ++ [(sb, si, so, sp)]), sdsP_app [] [(sb, si, so, sp)], appOk_sds (l := []) (l' := [(sb, si, so, sp)]) rfl rfl rfl (by simp), ?_⟩
            conv => whnf
            refine Or.inl ?_
            refine ev_ ?_
            exact hK
          refine go_ ?_
          rw [hw]
          refine c_round ⟨_, _, _, _, ?_, ?_, ?_, ⟨i + 1, .own 6, by omega, rfl, by rw [hyes], .inr (.inr (.inr ⟨by omega, by omega, rfl, rfl, by rw [hky, hyes]⟩))⟩⟩
          · omega
          · rfl
          · skip
            exact sub_
      · skip
        refine go_ ?_
        rw [hcw]
        refine go_ ?_
        with_reducible apply run_y
        exact want_
        · intro K hK
          refine ev_ ?_
          refine vcCall_plain (hsg) (by kernel_rfl) ?_
          refine ev_ ?_
          exact hK
        refine go_ ?_
        with_reducible apply run_y
        exact want_
        · intro K hK
          refine ev_ ?_
          refine ⟨dsP (kysE S i ++ [sb]), dsP_app _ [sb], appOk_ds (l' := [sb]) rfl rfl rfl (by simp; omega), ?_⟩
          refine ev_ ?_
          exact hK
        refine go_ ?_
        rw [hcm]
        cases g3 : decide (((i : Nat) : Int) ≥ ((m0 - need : Nat) : Int))
        case false =>
          exfalso
          have := of_decide_eq_false g3
          omega
        case true =>
          have hle : m0 - need ≤ i := by have := of_decide_eq_true g3; omega
          have hyes := sgsE_yes S hle
          rw [hsk] at hyes
          refine go_ ?_
          with_reducible apply run_y
          exact want_
          · intro K hK
            refine ev_ ?_
            refine ⟨sdsP (sgsE S (m0 - need) i ++ [(sb, si, so, sp)]), sdsP_app _ [(sb, si, so, sp)], appOk_sds (l' := [(sb, si, so, sp)]) rfl rfl rfl (by simp; omega), ?_⟩
            refine ev_ ?_
            exact hK
          refine go_ ?_
          rw [hw]
          refine c_round ⟨_, _, _, _, ?_, ?_, ?_, ⟨i + 1, .own 5, by omega, rfl, by rw [hyes], .inr (.inr (.inl ⟨by omega, by omega, rfl, rfl, by rw [hky, hyes]⟩))⟩⟩
          · omega
          · rfl
          · skip
            exact sub_
      · skip
        refine go_ ?_
        rw [hcw]
        refine go_ ?_
        with_reducible apply run_y
        exact want_
        · intro K hK
          refine ev_ ?_
          refine vcCall_plain (hsg) (by kernel_rfl) ?_
          refine ev_ ?_
          exact hK
        refine go_ ?_
        with_reducible apply run_y
        exact want_
        · intro K hK
          refine ev_ ?_
          refine ⟨dsP (kysE S i ++ [sb]), dsP_app _ [sb], appOk_ds (l' := [sb]) rfl rfl rfl (by simp; omega), ?_⟩
          refine ev_ ?_
          exact hK
        refine go_ ?_
        rw [hcm]
        cases g3 : decide (((i : Nat) : Int) ≥ ((m0 - need : Nat) : Int))
        case false =>
          exfalso
          have := of_decide_eq_false g3
          omega
        case true =>
          have hle : m0 - need ≤ i := by have := of_decide_eq_true g3; omega
          have hyes := sgsE_yes S hle
          rw [hsk] at hyes
          refine go_ ?_
          with_reducible apply run_y
          exact want_
          · intro K hK
            refine ev_ ?_
            refine ⟨sdsP (sgsE S (m0 - need) i ++ [(sb, si, so, sp)]), sdsP_app _ [(sb, si, so, sp)], appOk_sds (l' := [(sb, si, so, sp)]) rfl rfl rfl (by simp; omega), ?_⟩
            refine ev_ ?_
            exact hK
          refine go_ ?_
          rw [hw]
          refine c_round ⟨_, _, _, _, ?_, ?_, ?_, ⟨i + 1, .own 6, by omega, rfl, by rw [hyes], .inr (.inr (.inr ⟨by omega, by omega, rfl, rfl, by rw [hky, hyes]⟩))⟩⟩
          · omega
          · rfl
          · skip
            exact sub_
    · have hie : i = m0 := by omega
      subst hie
      have g1 : decide (((i : Nat) : Int) < ((i : Nat) : Int)) = false := decide_eq_false (by omega)
      have r1 := s_rqright (kysE S i) (need : Int) (by rw [kysE_len]; omega)
      have hlk := kysE_len S i
      have hll := sgsE_len S (i - need) i
      have w1 := s_who (kysE S i) (need : Int) msg (sgsE S (i - need) i) (by rw [kysE_len]; omega) (by rw [sgsE_len]; omega) (hall _)
      have o1 := s_qholds (kysE S i) (need : Int) msg (sgsE S (i - need) i) (by rw [kysE_len]; omega) (by rw [sgsE_len]; omega) (hall _)
      have o2 := s_qholds (kysE S i) (need : Int) msg (sgsE S (i - need + 1) i) (by rw [kysE_len]; omega) (by rw [sgsE_len]; omega) (hall _)
      have htl := sgsE_tail S (a := i - need) (i := i) (by omega)
      have hsl1 : ((sdsP (sgsE S (i - need) i)).drop 1).take ((sdsP (sgsE S (i - need) i)).length - 1) = sdsP (sgsE S (i - need + 1) i) := by
        rw [List.take_of_length_le (by rw [List.length_drop]; exact Nat.le_refl _), ← htl]
        unfold sdsP
        rw [List.map_drop]
      have hlen1 : 1 ≤ (sdsP (sgsE S (i - need) i)).length := by rw [sdsP_len, hll]; omega
      have hq : qrightE (kysE S i) (need : Int) = true → (whoE (kysE S i) msg (sgsE S (i - need) i)).length = need ∧ holdsE (kysE S i) (need : Int) msg (sgsE S (i - need) i) = true ∧ holdsE (kysE S i) (need : Int) msg (sgsE S (i - need + 1) i) = false := fun hr => by
        have hd : dupE (kysE S i) = false := by
          cases hd : dupE (kysE S i) with
          | false => rfl
          | true => rw [qright_dup hd] at hr; cases hr
        have hinj := dupE_inj (pk := fun j => (S j).1) hd
        have h1 := whoE_run (pk := fun j => (S j).1) (sg := fun j => (S j).2) (msg := msg) (m := i) (a := i - need) hinj (fun j _ => hSc j)
        have h2 := whoE_run (pk := fun j => (S j).1) (sg := fun j => (S j).2) (msg := msg) (m := i) (a := i - need + 1) hinj (fun j _ => hSc j)
        replace h1 : (whoE (kysE S i) msg (sgsE S (i - need) i)).length = i - (i - need) := h1
        replace h2 : (whoE (kysE S i) msg (sgsE S (i - need + 1) i)).length = i - (i - need + 1) := h2
        refine ⟨by omega, ?_, ?_⟩
        · unfold holdsE
          rw [hr, h1, Bool.true_and]
          exact decide_eq_true (by omega)
        · unfold holdsE
          rw [hr, h2, Bool.true_and]
          exact decide_eq_false (by omega)
      have hb : ∀ c ∈ sdsP (sgsE S (i - need) i), c.length = 7 := fun c hc => by
        obtain ⟨s, _, rfl⟩ := List.mem_map.1 hc
        rfl
      have hbw : ∀ j, j < (sdsP (sgsE S (i - need) i)).length → ((sdsP (sgsE S (i - need) i)).getD j []).length = 7 := sdsP_wide _
      rcases hc with ⟨rfl, -⟩ | ⟨hi0, hi1, -⟩ | ⟨hi0, hi1, rfl, rfl, rfl⟩ | ⟨hi0, hi1, rfl, rfl, rfl⟩
      · omega
      · omega
      all_goals
        refine go_ ?_
        with_reducible apply run_y
        exact want_
        · intro K hK
          refine ev_ ?_
          refine vcCall_plain (r1) (by kernel_rfl) ?_
          refine ev_ ?_
          exact hK
        refine go_ ?_
        cases hr : qrightE (kysE S i) (need : Int)
        case false =>
          refine go_ ?_
          with_reducible apply run_y
          exact want_
          · intro K hK
            refine ev_ ?_
            refine vcCall_plain (s_awake45) (by kernel_rfl) ?_
            refine ev_ ?_
            exact hK
          refine go_ ?_
          refine ev_ ?_
          exact .mk (by rfl) trivial
        case true =>
          obtain ⟨e1, e2, e3⟩ := hq hr
          rw [e2] at o1
          rw [e3] at o2
          have g5 : (((isP (whoE (kysE S i) msg (sgsE S (i - need) i))).length : Int) == (need : Int)) = true := by rw [isP_len, e1]; simp
          refine go_ ?_
          with_reducible apply run_y
          exact want_
          · intro K hK
            refine ev_ ?_
            refine vcCall_plain (w1) (by kernel_rfl) ?_
            refine ev_ ?_
            exact hK
          refine go_ ?_
          with_reducible apply run_y
          exact want_
          · intro K hK
            refine ev_ ?_
            refine vcCall_plain (s_awake45) (by kernel_rfl) ?_
            refine ev_ ?_
            exact hK
          refine go_ ?_
          with_reducible apply run_y
          exact want_
          · intro K hK
            refine ev_ ?_
            refine vcCall_plain (o1) (by kernel_rfl) ?_
            refine ev_ ?_
            exact hK
          refine go_ ?_
          rw [g5]
          refine go_ ?_
          with_reducible apply run_y
          exact want_
          · intro K hK
            refine ev_ ?_
            refine ⟨1, (sdsP (sgsE S (i - need) i)).length, sdsP (sgsE S (i - need + 1) i), rfl, rfl, hlen1, Nat.le_refl _, ⟨_, 7, rfl, rfl, .inr hbw⟩, hsl1, ?_⟩
            refine ev_ ?_
            exact hK
          refine go_ ?_
          with_reducible apply run_y
          exact want_
          · intro K hK
            refine ev_ ?_
            refine vcCall_plain (o2) (by kernel_rfl) ?_
            refine ev_ ?_
            exact hK
          refine go_ ?_
          refine ev_ ?_
          exact .mk (vb_eq (by simp)) trivial
theorem quorumDoes_walk (q0 : PV) (v0 : Value) (q1 : PV) (v1 : Value) (q2 : PV) (v2 : Value) (w : World) (hP : Places w) (i0 : IsV shD q0) (r0 : Rep (allOf w) q0 v0) (i1 : IsV (.int .u8) q1) (r1 : Rep (allOf w) q1 v1) (i2 : IsV (.int .u8) q2) (r2 : Rep (allOf w) q2 v2) : Calls Tryd.prog 7 #[v0, v1, v2] w fun e w' => e = .returned (.bool true) ∧ Grow w w' := by
  obtain ⟨msg, rfl⟩ := isV_D i0
  obtain ⟨x, hx, rfl⟩ := i1
  obtain ⟨y, hy, rfl⟩ := i2
  have bx := bounds_u8 hx
  have bY := bounds_u8 hy
  obtain ⟨x, rfl⟩ := Int.eq_ofNat_of_zero_le bx.1
  obtain ⟨y, rfl⟩ := Int.eq_ofNat_of_zero_le bY.1
  exact walk_of (s_quorumDoes msg x y (by omega)) hP (args3 r0 r1 r2)
end Go.Proofs.YtjokaennipmmaaaDoor
