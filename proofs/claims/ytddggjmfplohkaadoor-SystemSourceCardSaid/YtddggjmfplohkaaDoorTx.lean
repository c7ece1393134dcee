import Derived.Test.YtddggjmfplohkaaDoorTw
/- Expressions are written. -/
namespace Go.Proofs.YtddggjmfplohkaaDoor
open Go.RowKit
set_option linter.unnecessarySimpa false
/-- Whatever stands on a tape, an expression's text is written behind it. -/
def PutsE (e : Ex) : Prop := ∀ s : ByteArray, (s ++ prE e).size ≤ 140737488355328 → SpecH (Ctx.mk Tryd.prog globT 7 LaidT) 84 [.ptr 1 0, .agg (exC e)] [tapeB s] (.tup []) [tapeB (s ++ prE e)]
theorem exsC_at {l : List Ex} {j : Nat} (h : j < l.length) : (exsC l)[j]? = some (exC l[j]) := by rw [exsC_eq]; simp [h]
theorem exsC_wide (l : List Ex) (i : Nat) (h : i < (exsC l).length) : ((exsC l).getD i []).length = 5 := by
  rw [exsC_eq] at h ⊢
  have h : i < l.length := by simpa using h
  rw [show (l.map exC).getD i [] = exC l[i] by simp [List.getD, h]]
  generalize l[i] = e
  obtain ⟨_, _, _, _, _⟩ := e
  rfl
theorem drop_at {α : Type} {l : List α} {j : Nat} (h : j < l.length) : l.drop j = l[j] :: l.drop (j + 1) := List.drop_eq_getElem_cons h
set_option maxRecDepth 100000 in
theorem s_exprs (l : List Ex) (hl : l.length ≤ 1000000) (ih : ∀ e ∈ l, PutsE e) (s : ByteArray) (h : (s ++ prEs false l).size ≤ 140737488355328) : SpecH (Ctx.mk Tryd.prog globT 7 LaidT) 65 [.ptr 1 0, .sl .any (exsC l)] [tapeB s] (.tup []) [tapeB (s ++ prEs false l)] := by
  refine spec_of_bodyH CX_mixed CX_gpk Tryd.func65 rfl 23 1 (fun c hc => by rw [List.mem_singleton.1 hc]; rfl) rfl rfl rfl rfl ?_
  refine go_ ?_
  refine c_loop (fun k q m h => ∃ (j : Nat) (t : ByteArray), j ≤ l.length ∧ t ++ prEs (decide (0 < j)) (l.drop j) = s ++ prEs false l ∧ k = l.length - j ∧ q = [.ptr 1 0, .top, .top, .top, .top, .top, .sl .any (exsC l), .v (.int .i64 ((exsC l).length : Int)), .v (.int .i64 (j : Int))] ++ List.replicate 14 .top ∧ m = 2 ∧ h = [(1, tapeB t)])
    ⟨_, _, _, _, ?_, ?_, ⟨0, s, Nat.zero_le _, rfl, rfl, rfl, rfl, rfl⟩⟩ ?_
  · rfl
  · skip
    exact sub_
  · rintro k q m h2 hlen ⟨j, t, hj, ht, rfl, rfl, rfl, rfl⟩
    clear hlen
    refine go_ ?_
    first | refine run_b rfl rfl rfl (fun hb => ?_) (fun hb => ?_) | refine c_cond rfl (fun hb => ?_) (fun hb => ?_)
    · have hj' : j < l.length := by have := of_decide_eq_true hb; rw [exsC_len] at this; omega
      have hw2 : IntKind.i64.wrap ((j : Int) + 1) = ((j + 1 : Nat) : Int) := by rw [wrap64 (by omega) (by omega)]; omega
      rw [drop_at hj', prEs] at ht
      have hm : l[j] ∈ l := List.getElem_mem hj'
      have hat := exsC_at hj'
      have hsz : t.size + (if decide (0 < j) = true then (⟨#[44, 32]⟩ : ByteArray) else ByteArray.empty).size + (prE l[j]).size ≤ 140737488355328 := by
        have := congrArg ByteArray.size ht
        simp only [ByteArray.size_append] at this h ⊢
        omega
      have hI := ih _ hm
      generalize l[j] = e at *
      obtain ⟨ek, eo, en, es, eks⟩ := e
      by_cases h0 : 0 < j
      · have g0 : decide ((j : Int) > 0) = true := decide_eq_true (by omega)
        rw [if_pos (decide_eq_true h0)] at ht hsz
        refine go_ ?_
        with_reducible apply run_y
        exact want_
        · intro K hK
          refine ev_ ?_
          refine ⟨j, _, rfl, hat, rfl, ?_⟩
          refine ev_ ?_
          exact hK
        refine go_ ?_
        with_reducible apply run_y
        exact want_
        · intro K hK
          refine ev_ ?_
          refine vcCall_bld (s_write t (⟨#[44, 32]⟩ : ByteArray) (by omega)) (by kernel_rfl) (by decide) rfl ?_
          refine ev_ ?_
          exact hK
        refine go_ ?_
        with_reducible apply run_y
        exact want_
        · intro K hK
          refine ev_ ?_
          refine vcCall_bld (hI (t ++ (⟨#[44, 32]⟩ : ByteArray)) (by rw [ByteArray.size_append, ByteArray.size_append]; omega)) (by kernel_rfl) (by decide) rfl ?_
          refine ev_ ?_
          exact hK
        refine go_ ?_
        rw [hw2]
        refine go_ ?_
        refine c_round ⟨_, _, _, _, ?_, ?_, ?_, ⟨j + 1, t ++ ⟨#[44, 32]⟩ ++ prE (.mk ek eo en es eks), by omega, ?_, rfl, rfl, rfl, rfl⟩⟩
        · omega
        · rfl
        · skip
          exact sub_
        · rw [← ht, show decide (0 < j + 1) = true from rfl]
          simp only [ByteArray.append_assoc]
      · have g0 : decide ((j : Int) > 0) = false := decide_eq_false (by omega)
        have hj0 : j = 0 := by omega
        rw [if_neg (by simpa using h0)] at ht hsz
        refine go_ ?_
        with_reducible apply run_y
        exact want_
        · intro K hK
          refine ev_ ?_
          refine ⟨j, _, rfl, hat, rfl, ?_⟩
          refine ev_ ?_
          exact hK
        refine go_ ?_
        with_reducible apply run_y
        exact want_
        · intro K hK
          refine ev_ ?_
          refine vcCall_bld (hI t (by rw [ByteArray.size_append]; omega)) (by kernel_rfl) (by decide) rfl ?_
          refine ev_ ?_
          exact hK
        refine go_ ?_
        rw [hw2]
        refine go_ ?_
        refine c_round ⟨_, _, _, _, ?_, ?_, ?_, ⟨j + 1, t ++ prE (.mk ek eo en es eks), by omega, ?_, rfl, rfl, rfl, rfl⟩⟩
        · omega
        · rfl
        · skip
          exact sub_
        · rw [← ht, show decide (0 < j + 1) = true from rfl, nil_app]
          simp only [ByteArray.append_assoc]
    · have hj' : j = l.length := by have := of_decide_eq_false hb; rw [exsC_len] at this; omega
      have e0 : t = s ++ prEs false l := by
        rw [← ht, hj', List.drop_length, prEs, app_nil]
      subst e0
      refine go_ ?_
      refine ev_ ?_
      exact .mk rfl (And.intro (And.intro rfl (And.intro rfl (by rfl))) trivial)
def okO (k o : Int) : Prop := k = 6 → 4 ≤ o ∧ o ≤ 15
set_option maxHeartbeats 4000000 in
set_option maxRecDepth 100000 in
theorem s_expr (k o : Int) (n : UInt32) (nm : ByteArray) (ks : List Ex) (hl : ks.length ≤ 6) (ho : okO k o) (h2 : k = 6 ∨ k = 8 ∨ k = 9 → ks.length = 2) (hk : 1 ≤ k ∧ k ≤ 9) (ih : ∀ e ∈ ks, PutsE e) : PutsE (.mk k o n nm ks) := by
  intro s h
  have hn : n.toNat < 4294967296 := n.toNat_lt
  have kids := s_exprs ks (by omega) ih
  have hkk : k = 1 ∨ k = 2 ∨ k = 3 ∨ k = 4 ∨ k = 5 ∨ k = 7 ∨ (k = 6 ∨ k = 8 ∨ k = 9) := by omega
  rcases hkk with rfl | rfl | rfl | rfl | rfl | rfl | hkk
  · have e3 : prE (.mk 1 o n nm ks) = decE n.toNat := rfl
    rw [e3, ByteArray.size_append] at h
    rw [e3]
    refine spec_of_bodyH CX_mixed CX_gpk Tryd.func84 rfl 86 1 (fun c hc => by rw [List.mem_singleton.1 hc]; rfl) rfl rfl rfl rfl ?_
    refine go_ ?_
    with_reducible apply run_y
    exact want_
    · intro K hK
      refine ev_ ?_
      refine vcCall_plain (s_num n.toNat hn) (by kernel_rfl) ?_
      refine ev_ ?_
      exact hK
    refine go_ ?_
    with_reducible apply run_y
    exact want_
    · intro K hK
      refine ev_ ?_
      refine vcCall_bld (s_write s (decE n.toNat) h) (by kernel_rfl) (by decide) rfl ?_
      refine ev_ ?_
      exact hK
    refine go_ ?_
    refine ev_ ?_
    exact .mk rfl (And.intro (And.intro rfl (And.intro rfl (by rfl))) trivial)
  · have e3 : prE (.mk 2 o n nm ks) = nm := rfl
    rw [e3, ByteArray.size_append] at h
    rw [e3]
    refine spec_of_bodyH CX_mixed CX_gpk Tryd.func84 rfl 86 1 (fun c hc => by rw [List.mem_singleton.1 hc]; rfl) rfl rfl rfl rfl ?_
    refine go_ ?_
    with_reducible apply run_y
    exact want_
    · intro K hK
      refine ev_ ?_
      refine vcCall_bld (s_write s nm h) (by kernel_rfl) (by decide) rfl ?_
      refine ev_ ?_
      exact hK
    refine go_ ?_
    refine ev_ ?_
    exact .mk rfl (And.intro (And.intro rfl (And.intro rfl (by rfl))) trivial)
  · have e3 : prE (.mk 3 o n nm ks) = nm ++ ⟨#[91]⟩ ++ prEs false ks ++ ⟨#[93]⟩ := rfl
    have e4 : s ++ (nm ++ ⟨#[91]⟩ ++ prEs false ks ++ ⟨#[93]⟩) = s ++ (nm ++ ⟨#[91]⟩) ++ prEs false ks ++ ⟨#[93]⟩ := by simp only [ByteArray.append_assoc]
    rw [e3, e4] at h
    rw [e3, e4]
    simp only [ByteArray.size_append] at h
    have hz : nm.size + (⟨#[91]⟩ : ByteArray).size ≤ 9223372036854775807 := by omega
    refine spec_of_bodyH CX_mixed CX_gpk Tryd.func84 rfl 86 1 (fun c hc => by rw [List.mem_singleton.1 hc]; rfl) rfl rfl rfl rfl ?_
    refine go_ ?_
    with_reducible apply run_y
    exact want_
    · intro K hK
      refine ev_ ?_
      refine vcCall_bld (s_write s (nm ++ (⟨#[91]⟩ : ByteArray)) (by simp only [ByteArray.size_append]; omega)) (by kernel_rfl) (by decide) rfl ?_
      refine ev_ ?_
      exact hK
    refine go_ ?_
    with_reducible apply run_y
    exact want_
    · intro K hK
      refine ev_ ?_
      refine vcCall_bld (kids (s ++ (nm ++ (⟨#[91]⟩ : ByteArray))) (by simp only [ByteArray.size_append]; omega)) (by kernel_rfl) (by decide) rfl ?_
      refine ev_ ?_
      exact hK
    refine go_ ?_
    with_reducible apply run_y
    exact want_
    · intro K hK
      refine ev_ ?_
      refine vcCall_bld (s_write (s ++ (nm ++ (⟨#[91]⟩ : ByteArray)) ++ prEs false ks) (⟨#[93]⟩ : ByteArray) (by simp only [ByteArray.size_append]; omega)) (by kernel_rfl) (by decide) rfl ?_
      refine ev_ ?_
      exact hK
    refine go_ ?_
    refine ev_ ?_
    exact .mk rfl (And.intro (And.intro rfl (And.intro rfl (by rfl))) trivial)
  · have e3 : prE (.mk 4 o n nm ks) = nm ++ ⟨#[40]⟩ ++ prEs false ks ++ ⟨#[41]⟩ := rfl
    have e4 : s ++ (nm ++ ⟨#[40]⟩ ++ prEs false ks ++ ⟨#[41]⟩) = s ++ (nm ++ ⟨#[40]⟩) ++ prEs false ks ++ ⟨#[41]⟩ := by simp only [ByteArray.append_assoc]
    rw [e3, e4] at h
    rw [e3, e4]
    simp only [ByteArray.size_append] at h
    have hz : nm.size + (⟨#[40]⟩ : ByteArray).size ≤ 9223372036854775807 := by omega
    refine spec_of_bodyH CX_mixed CX_gpk Tryd.func84 rfl 86 1 (fun c hc => by rw [List.mem_singleton.1 hc]; rfl) rfl rfl rfl rfl ?_
    refine go_ ?_
    with_reducible apply run_y
    exact want_
    · intro K hK
      refine ev_ ?_
      refine vcCall_bld (s_write s (nm ++ (⟨#[40]⟩ : ByteArray)) (by simp only [ByteArray.size_append]; omega)) (by kernel_rfl) (by decide) rfl ?_
      refine ev_ ?_
      exact hK
    refine go_ ?_
    with_reducible apply run_y
    exact want_
    · intro K hK
      refine ev_ ?_
      refine vcCall_bld (kids (s ++ (nm ++ (⟨#[40]⟩ : ByteArray))) (by simp only [ByteArray.size_append]; omega)) (by kernel_rfl) (by decide) rfl ?_
      refine ev_ ?_
      exact hK
    refine go_ ?_
    with_reducible apply run_y
    exact want_
    · intro K hK
      refine ev_ ?_
      refine vcCall_bld (s_write (s ++ (nm ++ (⟨#[40]⟩ : ByteArray)) ++ prEs false ks) (⟨#[41]⟩ : ByteArray) (by simp only [ByteArray.size_append]; omega)) (by kernel_rfl) (by decide) rfl ?_
      refine ev_ ?_
      exact hK
    refine go_ ?_
    refine ev_ ?_
    exact .mk rfl (And.intro (And.intro rfl (And.intro rfl (by rfl))) trivial)
  · have e3 : prE (.mk 5 o n nm ks) = ⟨#[103, 101, 116, 40, 41]⟩ := rfl
    rw [e3, ByteArray.size_append] at h
    rw [e3]
    refine spec_of_bodyH CX_mixed CX_gpk Tryd.func84 rfl 86 1 (fun c hc => by rw [List.mem_singleton.1 hc]; rfl) rfl rfl rfl rfl ?_
    refine go_ ?_
    with_reducible apply run_y
    exact want_
    · intro K hK
      refine ev_ ?_
      refine vcCall_bld (s_write s (⟨#[103, 101, 116, 40, 41]⟩ : ByteArray) h) (by kernel_rfl) (by decide) rfl ?_
      refine ev_ ?_
      exact hK
    refine go_ ?_
    refine ev_ ?_
    exact .mk rfl (And.intro (And.intro rfl (And.intro rfl (by rfl))) trivial)
  · have e3 : prE (.mk 7 o n nm ks) = ⟨#[33]⟩ ++ prEs false ks := rfl
    have e4 : s ++ (⟨#[33]⟩ ++ prEs false ks) = s ++ ⟨#[33]⟩ ++ prEs false ks := by simp only [ByteArray.append_assoc]
    rw [e3, e4] at h
    rw [e3, e4]
    have h1 := h
    simp only [ByteArray.size_append] at h1
    refine spec_of_bodyH CX_mixed CX_gpk Tryd.func84 rfl 86 1 (fun c hc => by rw [List.mem_singleton.1 hc]; rfl) rfl rfl rfl rfl ?_
    refine go_ ?_
    with_reducible apply run_y
    exact want_
    · intro K hK
      refine ev_ ?_
      refine vcCall_bld (s_write s (⟨#[33]⟩ : ByteArray) (by omega)) (by kernel_rfl) (by decide) rfl ?_
      refine ev_ ?_
      exact hK
    refine go_ ?_
    with_reducible apply run_y
    exact want_
    · intro K hK
      refine ev_ ?_
      refine vcCall_bld (kids (s ++ (⟨#[33]⟩ : ByteArray)) h) (by kernel_rfl) (by decide) rfl ?_
      refine ev_ ?_
      exact hK
    refine go_ ?_
    refine ev_ ?_
    exact .mk rfl (And.intro (And.intro rfl (And.intro rfl (by rfl))) trivial)
  · obtain ⟨a, b, rfl⟩ : ∃ a b, ks = [a, b] := by
      match ks, h2 hkk with
      | [a, b], _ => exact ⟨a, b, rfl⟩
    have hA := s_exprs [a] (by simp) (fun e he => ih e (by simp at he; simp [he]))
    have hB := s_exprs [b] (by simp) (fun e he => ih e (by simp at he; simp [he]))
    have e3 : prE (.mk k o n nm [a, b]) = ⟨#[40]⟩ ++ prEs false [a] ++ (⟨#[32]⟩ ++ sgE k o ++ ⟨#[32]⟩) ++ prEs false [b] ++ ⟨#[41]⟩ := by
      rw [prE, if_neg (by omega), if_neg (by omega), if_neg (by omega), if_neg (by omega), if_neg (by omega), if_neg (by omega), prB]
      rw [show prEs false [a] = prE a by simp [prEs]]
    have e4 : s ++ (⟨#[40]⟩ ++ prEs false [a] ++ (⟨#[32]⟩ ++ sgE k o ++ ⟨#[32]⟩) ++ prEs false [b] ++ ⟨#[41]⟩) = s ++ ⟨#[40]⟩ ++ prEs false [a] ++ (⟨#[32]⟩ ++ sgE k o ++ ⟨#[32]⟩) ++ prEs false [b] ++ ⟨#[41]⟩ := by simp only [ByteArray.append_assoc]
    rw [e3, e4] at h
    rw [e3, e4]
    simp only [ByteArray.size_append] at h
    have hz1 : (⟨#[32]⟩ : ByteArray).size + (sgE k o).size ≤ 9223372036854775807 := by omega
    have hz2 : ((⟨#[32]⟩ : ByteArray) ++ sgE k o).size + (⟨#[32]⟩ : ByteArray).size ≤ 9223372036854775807 := by rw [ByteArray.size_append]; omega
    have hsg := s_sign k o n nm [a, b] (fun h8 h9 => ho (by omega))
    rcases hkk with rfl | rfl | rfl
    · skip
      refine spec_of_bodyH CX_mixed CX_gpk Tryd.func84 rfl 86 1 (fun c hc => by rw [List.mem_singleton.1 hc]; rfl) rfl rfl rfl rfl ?_
      refine go_ ?_
      with_reducible apply run_y
      exact want_
      · intro K hK
        refine ev_ ?_
        refine vcCall_bld (s_write s (⟨#[40]⟩ : ByteArray) (by omega)) (by kernel_rfl) (by decide) rfl ?_
        refine ev_ ?_
        exact hK
      refine go_ ?_
      with_reducible apply run_y
      exact want_
      · intro K hK
        refine ev_ ?_
        refine ⟨0, 1, exsC [a], rfl, rfl, Nat.zero_le _, Nat.le_of_ble_eq_true rfl, ⟨_, _, rfl, rfl, .inl rfl⟩, rfl, ?_⟩
        refine ev_ ?_
        exact hK
      refine go_ ?_
      with_reducible apply run_y
      exact want_
      · intro K hK
        refine ev_ ?_
        refine vcCall_bld (hA (s ++ (⟨#[40]⟩ : ByteArray)) (by simp only [ByteArray.size_append]; omega)) (by kernel_rfl) (by decide) rfl ?_
        refine ev_ ?_
        exact hK
      refine go_ ?_
      with_reducible apply run_y
      exact want_
      · intro K hK
        refine ev_ ?_
        refine vcCall_plain (hsg) (by kernel_rfl) ?_
        refine ev_ ?_
        exact hK
      refine go_ ?_
      refine go_ ?_
      with_reducible apply run_y
      exact want_
      · intro K hK
        refine ev_ ?_
        refine vcCall_bld (s_write (s ++ (⟨#[40]⟩ : ByteArray) ++ prEs false [a]) ((⟨#[32]⟩ : ByteArray) ++ sgE 6 o ++ (⟨#[32]⟩ : ByteArray)) (by simp only [ByteArray.size_append]; omega)) (by kernel_rfl) (by decide) rfl ?_
        refine ev_ ?_
        exact hK
      refine go_ ?_
      with_reducible apply run_y
      exact want_
      · intro K hK
        refine ev_ ?_
        refine ⟨1, 2, exsC [b], rfl, rfl, Nat.le_of_ble_eq_true rfl, Nat.le_of_ble_eq_true rfl, ⟨_, _, rfl, rfl, .inr (fun i hi => (exsC_wide _ i hi).trans (by kernel_rfl))⟩, rfl, ?_⟩
        refine ev_ ?_
        exact hK
      refine go_ ?_
      with_reducible apply run_y
      exact want_
      · intro K hK
        refine ev_ ?_
        refine vcCall_bld (hB (s ++ (⟨#[40]⟩ : ByteArray) ++ prEs false [a] ++ ((⟨#[32]⟩ : ByteArray) ++ sgE 6 o ++ (⟨#[32]⟩ : ByteArray))) (by simp only [ByteArray.size_append]; omega)) (by kernel_rfl) (by decide) rfl ?_
        refine ev_ ?_
        exact hK
      refine go_ ?_
      with_reducible apply run_y
      exact want_
      · intro K hK
        refine ev_ ?_
        refine vcCall_bld (s_write (s ++ (⟨#[40]⟩ : ByteArray) ++ prEs false [a] ++ ((⟨#[32]⟩ : ByteArray) ++ sgE 6 o ++ (⟨#[32]⟩ : ByteArray)) ++ prEs false [b]) (⟨#[41]⟩ : ByteArray) (by simp only [ByteArray.size_append]; omega)) (by kernel_rfl) (by decide) rfl ?_
        refine ev_ ?_
        exact hK
      refine go_ ?_
      refine ev_ ?_
      exact .mk rfl (And.intro (And.intro rfl (And.intro rfl (by rfl))) trivial)
    · skip
      refine spec_of_bodyH CX_mixed CX_gpk Tryd.func84 rfl 86 1 (fun c hc => by rw [List.mem_singleton.1 hc]; rfl) rfl rfl rfl rfl ?_
      refine go_ ?_
      with_reducible apply run_y
      exact want_
      · intro K hK
        refine ev_ ?_
        refine vcCall_bld (s_write s (⟨#[40]⟩ : ByteArray) (by omega)) (by kernel_rfl) (by decide) rfl ?_
        refine ev_ ?_
        exact hK
      refine go_ ?_
      with_reducible apply run_y
      exact want_
      · intro K hK
        refine ev_ ?_
        refine ⟨0, 1, exsC [a], rfl, rfl, Nat.zero_le _, Nat.le_of_ble_eq_true rfl, ⟨_, _, rfl, rfl, .inl rfl⟩, rfl, ?_⟩
        refine ev_ ?_
        exact hK
      refine go_ ?_
      with_reducible apply run_y
      exact want_
      · intro K hK
        refine ev_ ?_
        refine vcCall_bld (hA (s ++ (⟨#[40]⟩ : ByteArray)) (by simp only [ByteArray.size_append]; omega)) (by kernel_rfl) (by decide) rfl ?_
        refine ev_ ?_
        exact hK
      refine go_ ?_
      with_reducible apply run_y
      exact want_
      · intro K hK
        refine ev_ ?_
        refine vcCall_plain (hsg) (by kernel_rfl) ?_
        refine ev_ ?_
        exact hK
      refine go_ ?_
      refine go_ ?_
      with_reducible apply run_y
      exact want_
      · intro K hK
        refine ev_ ?_
        refine vcCall_bld (s_write (s ++ (⟨#[40]⟩ : ByteArray) ++ prEs false [a]) ((⟨#[32]⟩ : ByteArray) ++ sgE 8 o ++ (⟨#[32]⟩ : ByteArray)) (by simp only [ByteArray.size_append]; omega)) (by kernel_rfl) (by decide) rfl ?_
        refine ev_ ?_
        exact hK
      refine go_ ?_
      with_reducible apply run_y
      exact want_
      · intro K hK
        refine ev_ ?_
        refine ⟨1, 2, exsC [b], rfl, rfl, Nat.le_of_ble_eq_true rfl, Nat.le_of_ble_eq_true rfl, ⟨_, _, rfl, rfl, .inr (fun i hi => (exsC_wide _ i hi).trans (by kernel_rfl))⟩, rfl, ?_⟩
        refine ev_ ?_
        exact hK
      refine go_ ?_
      with_reducible apply run_y
      exact want_
      · intro K hK
        refine ev_ ?_
        refine vcCall_bld (hB (s ++ (⟨#[40]⟩ : ByteArray) ++ prEs false [a] ++ ((⟨#[32]⟩ : ByteArray) ++ sgE 8 o ++ (⟨#[32]⟩ : ByteArray))) (by simp only [ByteArray.size_append]; omega)) (by kernel_rfl) (by decide) rfl ?_
        refine ev_ ?_
        exact hK
      refine go_ ?_
      with_reducible apply run_y
      exact want_
      · intro K hK
        refine ev_ ?_
        refine vcCall_bld (s_write (s ++ (⟨#[40]⟩ : ByteArray) ++ prEs false [a] ++ ((⟨#[32]⟩ : ByteArray) ++ sgE 8 o ++ (⟨#[32]⟩ : ByteArray)) ++ prEs false [b]) (⟨#[41]⟩ : ByteArray) (by simp only [ByteArray.size_append]; omega)) (by kernel_rfl) (by decide) rfl ?_
        refine ev_ ?_
        exact hK
      refine go_ ?_
      refine ev_ ?_
      exact .mk rfl (And.intro (And.intro rfl (And.intro rfl (by rfl))) trivial)
    · skip
      refine spec_of_bodyH CX_mixed CX_gpk Tryd.func84 rfl 86 1 (fun c hc => by rw [List.mem_singleton.1 hc]; rfl) rfl rfl rfl rfl ?_
      refine go_ ?_
      with_reducible apply run_y
      exact want_
      · intro K hK
        refine ev_ ?_
        refine vcCall_bld (s_write s (⟨#[40]⟩ : ByteArray) (by omega)) (by kernel_rfl) (by decide) rfl ?_
        refine ev_ ?_
        exact hK
      refine go_ ?_
      with_reducible apply run_y
      exact want_
      · intro K hK
        refine ev_ ?_
        refine ⟨0, 1, exsC [a], rfl, rfl, Nat.zero_le _, Nat.le_of_ble_eq_true rfl, ⟨_, _, rfl, rfl, .inl rfl⟩, rfl, ?_⟩
        refine ev_ ?_
        exact hK
      refine go_ ?_
      with_reducible apply run_y
      exact want_
      · intro K hK
        refine ev_ ?_
        refine vcCall_bld (hA (s ++ (⟨#[40]⟩ : ByteArray)) (by simp only [ByteArray.size_append]; omega)) (by kernel_rfl) (by decide) rfl ?_
        refine ev_ ?_
        exact hK
      refine go_ ?_
      with_reducible apply run_y
      exact want_
      · intro K hK
        refine ev_ ?_
        refine vcCall_plain (hsg) (by kernel_rfl) ?_
        refine ev_ ?_
        exact hK
      refine go_ ?_
      refine go_ ?_
      with_reducible apply run_y
      exact want_
      · intro K hK
        refine ev_ ?_
        refine vcCall_bld (s_write (s ++ (⟨#[40]⟩ : ByteArray) ++ prEs false [a]) ((⟨#[32]⟩ : ByteArray) ++ sgE 9 o ++ (⟨#[32]⟩ : ByteArray)) (by simp only [ByteArray.size_append]; omega)) (by kernel_rfl) (by decide) rfl ?_
        refine ev_ ?_
        exact hK
      refine go_ ?_
      with_reducible apply run_y
      exact want_
      · intro K hK
        refine ev_ ?_
        refine ⟨1, 2, exsC [b], rfl, rfl, Nat.le_of_ble_eq_true rfl, Nat.le_of_ble_eq_true rfl, ⟨_, _, rfl, rfl, .inr (fun i hi => (exsC_wide _ i hi).trans (by kernel_rfl))⟩, rfl, ?_⟩
        refine ev_ ?_
        exact hK
      refine go_ ?_
      with_reducible apply run_y
      exact want_
      · intro K hK
        refine ev_ ?_
        refine vcCall_bld (hB (s ++ (⟨#[40]⟩ : ByteArray) ++ prEs false [a] ++ ((⟨#[32]⟩ : ByteArray) ++ sgE 9 o ++ (⟨#[32]⟩ : ByteArray))) (by simp only [ByteArray.size_append]; omega)) (by kernel_rfl) (by decide) rfl ?_
        refine ev_ ?_
        exact hK
      refine go_ ?_
      with_reducible apply run_y
      exact want_
      · intro K hK
        refine ev_ ?_
        refine vcCall_bld (s_write (s ++ (⟨#[40]⟩ : ByteArray) ++ prEs false [a] ++ ((⟨#[32]⟩ : ByteArray) ++ sgE 9 o ++ (⟨#[32]⟩ : ByteArray)) ++ prEs false [b]) (⟨#[41]⟩ : ByteArray) (by simp only [ByteArray.size_append]; omega)) (by kernel_rfl) (by decide) rfl ?_
        refine ev_ ?_
        exact hK
      refine go_ ?_
      refine ev_ ?_
      exact .mk rfl (And.intro (And.intro rfl (And.intro rfl (by rfl))) trivial)
theorem puts_ok : ∀ (d : Nat) (e : Ex), okE d e → PutsE e
  | 0, _, h => h.elim
  | d + 1, .mk k o n nm ks, h => s_expr k o n nm ks h.1 h.2.1 h.2.2.1 h.2.2.2.1 fun e he => puts_ok d e (h.2.2.2.2 e he)
theorem s_exprs_ok (d : Nat) (l : List Ex) (hl : l.length ≤ 1000000) (h : ∀ e ∈ l, okE d e) (s : ByteArray) (hs : (s ++ prEs false l).size ≤ 140737488355328) : SpecH (Ctx.mk Tryd.prog globT 7 LaidT) 65 [.ptr 1 0, .sl .any (exsC l)] [tapeB s] (.tup []) [tapeB (s ++ prEs false l)] :=
  s_exprs l hl (fun e he => puts_ok d e (h e he)) s hs
end Go.Proofs.YtddggjmfplohkaaDoor
