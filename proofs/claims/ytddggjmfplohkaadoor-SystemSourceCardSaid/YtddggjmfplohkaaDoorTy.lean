import Derived.Test.YtddggjmfplohkaaDoorTx
/- Statements are written. -/
namespace Go.Proofs.YtddggjmfplohkaaDoor
open Go.RowKit
set_option linter.unnecessarySimpa false
/-- Whatever stands on a tape, a statement's lines are written behind it. -/
def PutsS (d : Nat) (x : Sm) : Prop := ∀ (s : ByteArray) (lv : Nat), lv + d ≤ 1000 → (s ++ prS lv x).size ≤ 140737488355328 → SpecH (Ctx.mk Tryd.prog globT 7 LaidT) 38 [.ptr 1 0, .agg (smC x), .v (.int .i64 (lv : Int))] [tapeB s] (.tup []) [tapeB (s ++ prS lv x)]
theorem smsC_at {l : List Sm} {j : Nat} (h : j < l.length) : (smsC l)[j]? = some (smC l[j]) := by rw [smsC_eq]; simp [h]
set_option maxHeartbeats 4000000 in
set_option maxRecDepth 100000 in
theorem s_stmts (d : Nat) (l : List Sm) (hl : l.length ≤ 1000000) (ih : ∀ e ∈ l, PutsS d e) (s : ByteArray) (lv : Nat) (hlv : lv + d ≤ 1000) (h : (s ++ prSs lv l).size ≤ 140737488355328) : SpecH (Ctx.mk Tryd.prog globT 7 LaidT) 16 [.ptr 1 0, .sl .any (smsC l), .v (.int .i64 (lv : Int))] [tapeB s] (.tup []) [tapeB (s ++ prSs lv l)] := by
  refine spec_of_bodyH CX_mixed CX_gpk Tryd.func16 rfl 19 1 (fun c hc => by rw [List.mem_singleton.1 hc]; rfl) rfl rfl rfl rfl ?_
  refine go_ ?_
  refine c_loop (fun k q m h => ∃ (j : Nat) (t : ByteArray), j ≤ l.length ∧ t ++ prSs lv (l.drop j) = s ++ prSs lv l ∧ k = l.length - j ∧ q = [.ptr 1 0, .top, .v (.int .i64 (lv : Int)), .top, .top, .top, .top, .top, .sl .any (smsC l), .v (.int .i64 ((smsC l).length : Int)), .v (.int .i64 (j : Int))] ++ List.replicate 8 .top ∧ m = 2 ∧ h = [(1, tapeB t)])
    ⟨_, _, _, _, ?_, ?_, ⟨0, s, Nat.zero_le _, rfl, rfl, rfl, rfl, rfl⟩⟩ ?_
  · rfl
  · skip
    exact sub_
  · rintro k q m h2 hlen ⟨j, t, hj, ht, rfl, rfl, rfl, rfl⟩
    clear hlen
    refine go_ ?_
    first | refine run_b rfl rfl rfl (fun hb => ?_) (fun hb => ?_) | refine c_cond rfl (fun hb => ?_) (fun hb => ?_)
    · have hj' : j < l.length := by have := of_decide_eq_true hb; rw [smsC_len] at this; omega
      have hw2 : IntKind.i64.wrap ((j : Int) + 1) = ((j + 1 : Nat) : Int) := by rw [wrap64 (by omega) (by omega)]; omega
      rw [drop_at hj', prSs] at ht
      have hm : l[j] ∈ l := List.getElem_mem hj'
      have hat := smsC_at hj'
      have hsz : (t ++ prS lv l[j]).size ≤ 140737488355328 := by
        have := congrArg ByteArray.size ht
        simp only [ByteArray.size_append] at this h ⊢
        omega
      have hI := ih _ hm
      generalize l[j] = e at *
      obtain ⟨ek, es, ee, et, ef⟩ := e
      refine go_ ?_
      with_reducible apply run_y
      exact want_
      · intro K hK
        refine ev_ ?_
        refine ⟨j, _, rfl, hat, rfl, ?_⟩
        refine ev_ ?_
        exact hK
      refine go_ ?_
      with_reducible apply run_y
      exact want_
      · intro K hK
        refine ev_ ?_
        refine vcCall_bld (hI t lv hlv hsz) (by kernel_rfl) (by decide) rfl ?_
        refine ev_ ?_
        exact hK
      refine go_ ?_
      rw [hw2]
      refine go_ ?_
      refine c_round ⟨_, _, _, _, ?_, ?_, ?_, ⟨j + 1, t ++ prS lv (.mk ek es ee et ef), by omega, ?_, rfl, rfl, rfl, rfl⟩⟩
      · omega
      · rfl
      · skip
        exact sub_
      · rw [← ht]
        simp only [ByteArray.append_assoc]
    · have hj' : j = l.length := by have := of_decide_eq_false hb; rw [smsC_len] at this; omega
      have e0 : t = s ++ prSs lv l := by
        rw [← ht, hj', List.drop_length, prSs, app_nil]
      subst e0
      refine go_ ?_
      refine ev_ ?_
      exact .mk rfl (And.intro (And.intro rfl (And.intro rfl (by rfl))) trivial)
set_option maxHeartbeats 4000000 in
set_option maxRecDepth 100000 in
theorem s_set (d : Nat) (nm : ByteArray) (es : List Ex) (hl : es.length ≤ 6) (he : ∀ e ∈ es, okE d e) (t f : List Sm) (s : ByteArray) (lv : Nat) (hlv : lv + (d + 1) ≤ 1000) (h : (s ++ prS lv (.mk 1 nm es t f)).size ≤ 140737488355328) : SpecH (Ctx.mk Tryd.prog globT 7 LaidT) 38 [.ptr 1 0, .agg (smC (.mk 1 nm es t f)), .v (.int .i64 (lv : Int))] [tapeB s] (.tup []) [tapeB (s ++ prS lv (.mk 1 nm es t f))] := by
  have e3 : s ++ prS lv (.mk 1 nm es t f) = s ++ indE lv ++ (nm ++ (⟨#[32, 61, 32]⟩ : ByteArray)) ++ prEs false es ++ (⟨#[59]⟩ : ByteArray) ++ (⟨#[10]⟩ : ByteArray) := by
    rw [show prS lv (.mk 1 nm es t f) = indE lv ++ (nm ++ (⟨#[32, 61, 32]⟩ : ByteArray)) ++ prEs false es ++ (⟨#[59]⟩ : ByteArray) ++ (⟨#[10]⟩ : ByteArray) from rfl]
    simp only [ByteArray.append_assoc]
  rw [e3] at h ⊢
  simp only [ByteArray.size_append] at h
  have hz : nm.size + (⟨#[32, 61, 32]⟩ : ByteArray).size ≤ 9223372036854775807 := by omega
  have kids := s_exprs_ok d es (by omega) he
  refine spec_of_bodyH CX_mixed CX_gpk Tryd.func38 rfl 103 1 (fun c hc => by rw [List.mem_singleton.1 hc]; rfl) rfl rfl rfl rfl ?_
  refine go_ ?_
  with_reducible apply run_y
  exact want_
  · intro K hK
    refine ev_ ?_
    refine vcCall_bld (s_begin s (nm ++ (⟨#[32, 61, 32]⟩ : ByteArray)) lv (by omega) (by simp only [ByteArray.size_append]; omega)) (by kernel_rfl) (by decide) rfl ?_
    refine ev_ ?_
    exact hK
  refine go_ ?_
  with_reducible apply run_y
  exact want_
  · intro K hK
    refine ev_ ?_
    refine vcCall_bld (kids (s ++ indE lv ++ (nm ++ (⟨#[32, 61, 32]⟩ : ByteArray))) (by simp only [ByteArray.size_append]; omega)) (by kernel_rfl) (by decide) rfl ?_
    refine ev_ ?_
    exact hK
  refine go_ ?_
  with_reducible apply run_y
  exact want_
  · intro K hK
    refine ev_ ?_
    refine vcCall_bld (s_end (s ++ indE lv ++ (nm ++ (⟨#[32, 61, 32]⟩ : ByteArray)) ++ prEs false es) (⟨#[59]⟩ : ByteArray) (by simp only [ByteArray.size_append]; omega)) (by kernel_rfl) (by decide) rfl ?_
    refine ev_ ?_
    exact hK
  refine go_ ?_
  refine ev_ ?_
  exact .mk rfl (And.intro (And.intro rfl (And.intro rfl (by rfl))) trivial)
set_option maxHeartbeats 4000000 in
set_option maxRecDepth 100000 in
theorem s_put (d : Nat) (nm : ByteArray) (es : List Ex) (hl : es.length ≤ 6) (he : ∀ e ∈ es, okE d e) (t f : List Sm) (s : ByteArray) (lv : Nat) (hlv : lv + (d + 1) ≤ 1000) (h : (s ++ prS lv (.mk 3 nm es t f)).size ≤ 140737488355328) : SpecH (Ctx.mk Tryd.prog globT 7 LaidT) 38 [.ptr 1 0, .agg (smC (.mk 3 nm es t f)), .v (.int .i64 (lv : Int))] [tapeB s] (.tup []) [tapeB (s ++ prS lv (.mk 3 nm es t f))] := by
  have e3 : s ++ prS lv (.mk 3 nm es t f) = s ++ indE lv ++ (⟨#[112, 117, 116, 40]⟩ : ByteArray) ++ prEs false es ++ (⟨#[41, 59]⟩ : ByteArray) ++ (⟨#[10]⟩ : ByteArray) := by
    rw [show prS lv (.mk 3 nm es t f) = indE lv ++ (⟨#[112, 117, 116, 40]⟩ : ByteArray) ++ prEs false es ++ (⟨#[41, 59]⟩ : ByteArray) ++ (⟨#[10]⟩ : ByteArray) from rfl]
    simp only [ByteArray.append_assoc]
  rw [e3] at h ⊢
  simp only [ByteArray.size_append] at h
  have kids := s_exprs_ok d es (by omega) he
  refine spec_of_bodyH CX_mixed CX_gpk Tryd.func38 rfl 103 1 (fun c hc => by rw [List.mem_singleton.1 hc]; rfl) rfl rfl rfl rfl ?_
  refine go_ ?_
  with_reducible apply run_y
  exact want_
  · intro K hK
    refine ev_ ?_
    refine vcCall_bld (s_begin s (⟨#[112, 117, 116, 40]⟩ : ByteArray) lv (by omega) (by simp only [ByteArray.size_append]; omega)) (by kernel_rfl) (by decide) rfl ?_
    refine ev_ ?_
    exact hK
  refine go_ ?_
  with_reducible apply run_y
  exact want_
  · intro K hK
    refine ev_ ?_
    refine vcCall_bld (kids (s ++ indE lv ++ (⟨#[112, 117, 116, 40]⟩ : ByteArray)) (by simp only [ByteArray.size_append]; omega)) (by kernel_rfl) (by decide) rfl ?_
    refine ev_ ?_
    exact hK
  refine go_ ?_
  with_reducible apply run_y
  exact want_
  · intro K hK
    refine ev_ ?_
    refine vcCall_bld (s_end (s ++ indE lv ++ (⟨#[112, 117, 116, 40]⟩ : ByteArray) ++ prEs false es) (⟨#[41, 59]⟩ : ByteArray) (by simp only [ByteArray.size_append]; omega)) (by kernel_rfl) (by decide) rfl ?_
    refine ev_ ?_
    exact hK
  refine go_ ?_
  refine ev_ ?_
  exact .mk rfl (And.intro (And.intro rfl (And.intro rfl (by rfl))) trivial)
set_option maxHeartbeats 4000000 in
set_option maxRecDepth 100000 in
theorem s_call (d : Nat) (nm : ByteArray) (es : List Ex) (hl : es.length ≤ 6) (he : ∀ e ∈ es, okE d e) (t f : List Sm) (s : ByteArray) (lv : Nat) (hlv : lv + (d + 1) ≤ 1000) (h : (s ++ prS lv (.mk 6 nm es t f)).size ≤ 140737488355328) : SpecH (Ctx.mk Tryd.prog globT 7 LaidT) 38 [.ptr 1 0, .agg (smC (.mk 6 nm es t f)), .v (.int .i64 (lv : Int))] [tapeB s] (.tup []) [tapeB (s ++ prS lv (.mk 6 nm es t f))] := by
  have e3 : s ++ prS lv (.mk 6 nm es t f) = s ++ indE lv ++ (nm ++ (⟨#[40]⟩ : ByteArray)) ++ prEs false es ++ (⟨#[41, 59]⟩ : ByteArray) ++ (⟨#[10]⟩ : ByteArray) := by
    rw [show prS lv (.mk 6 nm es t f) = indE lv ++ (nm ++ (⟨#[40]⟩ : ByteArray)) ++ prEs false es ++ (⟨#[41, 59]⟩ : ByteArray) ++ (⟨#[10]⟩ : ByteArray) from rfl]
    simp only [ByteArray.append_assoc]
  rw [e3] at h ⊢
  simp only [ByteArray.size_append] at h
  have hz : nm.size + (⟨#[40]⟩ : ByteArray).size ≤ 9223372036854775807 := by omega
  have kids := s_exprs_ok d es (by omega) he
  refine spec_of_bodyH CX_mixed CX_gpk Tryd.func38 rfl 103 1 (fun c hc => by rw [List.mem_singleton.1 hc]; rfl) rfl rfl rfl rfl ?_
  refine go_ ?_
  with_reducible apply run_y
  exact want_
  · intro K hK
    refine ev_ ?_
    refine vcCall_bld (s_begin s (nm ++ (⟨#[40]⟩ : ByteArray)) lv (by omega) (by simp only [ByteArray.size_append]; omega)) (by kernel_rfl) (by decide) rfl ?_
    refine ev_ ?_
    exact hK
  refine go_ ?_
  with_reducible apply run_y
  exact want_
  · intro K hK
    refine ev_ ?_
    refine vcCall_bld (kids (s ++ indE lv ++ (nm ++ (⟨#[40]⟩ : ByteArray))) (by simp only [ByteArray.size_append]; omega)) (by kernel_rfl) (by decide) rfl ?_
    refine ev_ ?_
    exact hK
  refine go_ ?_
  with_reducible apply run_y
  exact want_
  · intro K hK
    refine ev_ ?_
    refine vcCall_bld (s_end (s ++ indE lv ++ (nm ++ (⟨#[40]⟩ : ByteArray)) ++ prEs false es) (⟨#[41, 59]⟩ : ByteArray) (by simp only [ByteArray.size_append]; omega)) (by kernel_rfl) (by decide) rfl ?_
    refine ev_ ?_
    exact hK
  refine go_ ?_
  refine ev_ ?_
  exact .mk rfl (And.intro (And.intro rfl (And.intro rfl (by rfl))) trivial)
set_option maxHeartbeats 4000000 in
set_option maxRecDepth 100000 in
theorem s_store (d : Nat) (nm : ByteArray) (a b : Ex) (he : ∀ e ∈ [a, b], okE d e) (t f : List Sm) (s : ByteArray) (lv : Nat) (hlv : lv + (d + 1) ≤ 1000) (h : (s ++ prS lv (.mk 2 nm [a, b] t f)).size ≤ 140737488355328) : SpecH (Ctx.mk Tryd.prog globT 7 LaidT) 38 [.ptr 1 0, .agg (smC (.mk 2 nm [a, b] t f)), .v (.int .i64 (lv : Int))] [tapeB s] (.tup []) [tapeB (s ++ prS lv (.mk 2 nm [a, b] t f))] := by
  have e3 : s ++ prS lv (.mk 2 nm [a, b] t f) = s ++ indE lv ++ (nm ++ (⟨#[91]⟩ : ByteArray)) ++ prEs false [a] ++ (⟨#[93, 32, 61, 32]⟩ : ByteArray) ++ prEs false [b] ++ (⟨#[59]⟩ : ByteArray) ++ (⟨#[10]⟩ : ByteArray) := by
    rw [show prS lv (.mk 2 nm [a, b] t f) = indE lv ++ (nm ++ (⟨#[91]⟩ : ByteArray)) ++ prE a ++ (⟨#[93, 32, 61, 32]⟩ : ByteArray) ++ prEs false [b] ++ (⟨#[59]⟩ : ByteArray) ++ (⟨#[10]⟩ : ByteArray) from rfl, show prEs false [a] = prE a by simp [prEs]]
    simp only [ByteArray.append_assoc]
  rw [e3] at h ⊢
  simp only [ByteArray.size_append] at h
  have hz : nm.size + (⟨#[91]⟩ : ByteArray).size ≤ 9223372036854775807 := by omega
  have hA := s_exprs_ok d [a] (by simp) (fun e h => he e (by simp at h; simp [h]))
  have hB := s_exprs_ok d [b] (by simp) (fun e h => he e (by simp at h; simp [h]))
  refine spec_of_bodyH CX_mixed CX_gpk Tryd.func38 rfl 103 1 (fun c hc => by rw [List.mem_singleton.1 hc]; rfl) rfl rfl rfl rfl ?_
  refine go_ ?_
  with_reducible apply run_y
  exact want_
  · intro K hK
    refine ev_ ?_
    refine vcCall_bld (s_begin s (nm ++ (⟨#[91]⟩ : ByteArray)) lv (by omega) (by simp only [ByteArray.size_append]; omega)) (by kernel_rfl) (by decide) rfl ?_
    refine ev_ ?_
    exact hK
  refine go_ ?_
  with_reducible apply run_y
  exact want_
  · intro K hK
    refine ev_ ?_
    refine ⟨0, 1, exsC [a], rfl, rfl, Nat.zero_le _, Nat.le_of_ble_eq_true rfl, ⟨_, _, rfl, rfl, .inl rfl⟩, rfl, ?_⟩
    refine ev_ ?_
    exact hK
  refine go_ ?_
  with_reducible apply run_y
  exact want_
  · intro K hK
    refine ev_ ?_
    refine vcCall_bld (hA (s ++ indE lv ++ (nm ++ (⟨#[91]⟩ : ByteArray))) (by simp only [ByteArray.size_append]; omega)) (by kernel_rfl) (by decide) rfl ?_
    refine ev_ ?_
    exact hK
  refine go_ ?_
  with_reducible apply run_y
  exact want_
  · intro K hK
    refine ev_ ?_
    refine vcCall_bld (s_write (s ++ indE lv ++ (nm ++ (⟨#[91]⟩ : ByteArray)) ++ prEs false [a]) (⟨#[93, 32, 61, 32]⟩ : ByteArray) (by simp only [ByteArray.size_append]; omega)) (by kernel_rfl) (by decide) rfl ?_
    refine ev_ ?_
    exact hK
  refine go_ ?_
  with_reducible apply run_y
  exact want_
  · intro K hK
    refine ev_ ?_
    refine ⟨1, 2, exsC [b], rfl, rfl, Nat.le_of_ble_eq_true rfl, Nat.le_of_ble_eq_true rfl, ⟨_, _, rfl, rfl, .inr (fun i hi => (exsC_wide _ i hi).trans (by kernel_rfl))⟩, rfl, ?_⟩
    refine ev_ ?_
    exact hK
  refine go_ ?_
  with_reducible apply run_y
  exact want_
  · intro K hK
    refine ev_ ?_
    refine vcCall_bld (hB (s ++ indE lv ++ (nm ++ (⟨#[91]⟩ : ByteArray)) ++ prEs false [a] ++ (⟨#[93, 32, 61, 32]⟩ : ByteArray)) (by simp only [ByteArray.size_append]; omega)) (by kernel_rfl) (by decide) rfl ?_
    refine ev_ ?_
    exact hK
  refine go_ ?_
  with_reducible apply run_y
  exact want_
  · intro K hK
    refine ev_ ?_
    refine vcCall_bld (s_end (s ++ indE lv ++ (nm ++ (⟨#[91]⟩ : ByteArray)) ++ prEs false [a] ++ (⟨#[93, 32, 61, 32]⟩ : ByteArray) ++ prEs false [b]) (⟨#[59]⟩ : ByteArray) (by simp only [ByteArray.size_append]; omega)) (by kernel_rfl) (by decide) rfl ?_
    refine ev_ ?_
    exact hK
  refine go_ ?_
  refine ev_ ?_
  exact .mk rfl (And.intro (And.intro rfl (And.intro rfl (by rfl))) trivial)
set_option maxHeartbeats 4000000 in
set_option maxRecDepth 100000 in
theorem s_ret0 (d : Nat) (nm : ByteArray) (t f : List Sm) (s : ByteArray) (lv : Nat) (hlv : lv + (d + 1) ≤ 1000) (h : (s ++ prS lv (.mk 7 nm [] t f)).size ≤ 140737488355328) : SpecH (Ctx.mk Tryd.prog globT 7 LaidT) 38 [.ptr 1 0, .agg (smC (.mk 7 nm [] t f)), .v (.int .i64 (lv : Int))] [tapeB s] (.tup []) [tapeB (s ++ prS lv (.mk 7 nm [] t f))] := by
  have e3 : s ++ prS lv (.mk 7 nm [] t f) = s ++ indE lv ++ (⟨#[114, 101, 116, 117, 114, 110]⟩ : ByteArray) ++ (⟨#[59]⟩ : ByteArray) ++ (⟨#[10]⟩ : ByteArray) := by
    rw [show prS lv (.mk 7 nm [] t f) = indE lv ++ (⟨#[114, 101, 116, 117, 114, 110]⟩ : ByteArray) ++ ByteArray.empty ++ (⟨#[59]⟩ : ByteArray) ++ (⟨#[10]⟩ : ByteArray) from rfl, app_nil]
    simp only [ByteArray.append_assoc]
  rw [e3] at h ⊢
  simp only [ByteArray.size_append] at h
  refine spec_of_bodyH CX_mixed CX_gpk Tryd.func38 rfl 103 1 (fun c hc => by rw [List.mem_singleton.1 hc]; rfl) rfl rfl rfl rfl ?_
  refine go_ ?_
  with_reducible apply run_y
  exact want_
  · intro K hK
    refine ev_ ?_
    refine vcCall_bld (s_begin s (⟨#[114, 101, 116, 117, 114, 110]⟩ : ByteArray) lv (by omega) (by simp only [ByteArray.size_append]; omega)) (by kernel_rfl) (by decide) rfl ?_
    refine ev_ ?_
    exact hK
  refine go_ ?_
  with_reducible apply run_y
  exact want_
  · intro K hK
    refine ev_ ?_
    refine vcCall_bld (s_end (s ++ indE lv ++ (⟨#[114, 101, 116, 117, 114, 110]⟩ : ByteArray)) (⟨#[59]⟩ : ByteArray) (by simp only [ByteArray.size_append]; omega)) (by kernel_rfl) (by decide) rfl ?_
    refine ev_ ?_
    exact hK
  refine go_ ?_
  refine ev_ ?_
  exact .mk rfl (And.intro (And.intro rfl (And.intro rfl (by rfl))) trivial)
set_option maxHeartbeats 4000000 in
set_option maxRecDepth 100000 in
theorem s_ret1 (d : Nat) (nm : ByteArray) (a : Ex) (r : List Ex) (hl : (a :: r).length ≤ 6) (he : ∀ e ∈ a :: r, okE d e) (t f : List Sm) (s : ByteArray) (lv : Nat) (hlv : lv + (d + 1) ≤ 1000) (h : (s ++ prS lv (.mk 7 nm (a :: r) t f)).size ≤ 140737488355328) : SpecH (Ctx.mk Tryd.prog globT 7 LaidT) 38 [.ptr 1 0, .agg (smC (.mk 7 nm (a :: r) t f)), .v (.int .i64 (lv : Int))] [tapeB s] (.tup []) [tapeB (s ++ prS lv (.mk 7 nm (a :: r) t f))] := by
  have e3 : s ++ prS lv (.mk 7 nm (a :: r) t f) = s ++ indE lv ++ (⟨#[114, 101, 116, 117, 114, 110]⟩ : ByteArray) ++ (⟨#[32]⟩ : ByteArray) ++ prEs false (a :: r) ++ (⟨#[59]⟩ : ByteArray) ++ (⟨#[10]⟩ : ByteArray) := by
    rw [show prS lv (.mk 7 nm (a :: r) t f) = indE lv ++ (⟨#[114, 101, 116, 117, 114, 110]⟩ : ByteArray) ++ ((⟨#[32]⟩ : ByteArray) ++ prEs false (a :: r)) ++ (⟨#[59]⟩ : ByteArray) ++ (⟨#[10]⟩ : ByteArray) from rfl]
    simp only [ByteArray.append_assoc]
  rw [e3] at h ⊢
  simp only [ByteArray.size_append] at h
  have kids := s_exprs_ok d (a :: r) (by omega) he
  have g0 : decide (((exsC (a :: r)).length : Int) > 0) = true := decide_eq_true (by rw [exsC_len]; simp)
  refine spec_of_bodyH CX_mixed CX_gpk Tryd.func38 rfl 103 1 (fun c hc => by rw [List.mem_singleton.1 hc]; rfl) rfl rfl rfl rfl ?_
  refine go_ ?_
  with_reducible apply run_y
  exact want_
  · intro K hK
    refine ev_ ?_
    refine vcCall_bld (s_begin s (⟨#[114, 101, 116, 117, 114, 110]⟩ : ByteArray) lv (by omega) (by simp only [ByteArray.size_append]; omega)) (by kernel_rfl) (by decide) rfl ?_
    refine ev_ ?_
    exact hK
  refine go_ ?_
  with_reducible apply run_y
  exact want_
  · intro K hK
    refine ev_ ?_
    refine vcCall_bld (s_write (s ++ indE lv ++ (⟨#[114, 101, 116, 117, 114, 110]⟩ : ByteArray)) (⟨#[32]⟩ : ByteArray) (by simp only [ByteArray.size_append]; omega)) (by kernel_rfl) (by decide) rfl ?_
    refine ev_ ?_
    exact hK
  refine go_ ?_
  with_reducible apply run_y
  exact want_
  · intro K hK
    refine ev_ ?_
    refine vcCall_bld (kids (s ++ indE lv ++ (⟨#[114, 101, 116, 117, 114, 110]⟩ : ByteArray) ++ (⟨#[32]⟩ : ByteArray)) (by simp only [ByteArray.size_append]; omega)) (by kernel_rfl) (by decide) rfl ?_
    refine ev_ ?_
    exact hK
  refine go_ ?_
  with_reducible apply run_y
  exact want_
  · intro K hK
    refine ev_ ?_
    refine vcCall_bld (s_end (s ++ indE lv ++ (⟨#[114, 101, 116, 117, 114, 110]⟩ : ByteArray) ++ (⟨#[32]⟩ : ByteArray) ++ prEs false (a :: r)) (⟨#[59]⟩ : ByteArray) (by simp only [ByteArray.size_append]; omega)) (by kernel_rfl) (by decide) rfl ?_
    refine ev_ ?_
    exact hK
  refine go_ ?_
  refine ev_ ?_
  exact .mk rfl (And.intro (And.intro rfl (And.intro rfl (by rfl))) trivial)
set_option maxHeartbeats 4000000 in
set_option maxRecDepth 100000 in
theorem s_if0 (d : Nat) (nm : ByteArray) (es : List Ex) (hl : es.length ≤ 6) (he : ∀ e ∈ es, okE d e) (t : List Sm) (htl : t.length ≤ 1000000) (ht : ∀ x ∈ t, PutsS d x) (s : ByteArray) (lv : Nat) (hlv : lv + (d + 1) ≤ 1000) (h : (s ++ prS lv (.mk 4 nm es t [])).size ≤ 140737488355328) : SpecH (Ctx.mk Tryd.prog globT 7 LaidT) 66 [.ptr 1 0, .agg (smC (.mk 4 nm es t [])), .v (.int .i64 (lv : Int))] [tapeB s] (.tup []) [tapeB (s ++ prS lv (.mk 4 nm es t []))] := by
  have e3 : s ++ prS lv (.mk 4 nm es t []) = s ++ indE lv ++ (⟨#[105, 102, 32, 40]⟩ : ByteArray) ++ prEs false es ++ (⟨#[41, 32, 123]⟩ : ByteArray) ++ (⟨#[10]⟩ : ByteArray) ++ prSs (lv + 1) t ++ indE lv ++ (⟨#[125]⟩ : ByteArray) ++ (⟨#[10]⟩ : ByteArray) := by
    rw [show prS lv (.mk 4 nm es t []) = indE lv ++ (⟨#[105, 102, 32, 40]⟩ : ByteArray) ++ prEs false es ++ (⟨#[41, 32, 123]⟩ : ByteArray) ++ (⟨#[10]⟩ : ByteArray) ++ prSs (lv + 1) t ++ ByteArray.empty ++ indE lv ++ (⟨#[125]⟩ : ByteArray) ++ (⟨#[10]⟩ : ByteArray) from rfl, app_nil]
    simp only [ByteArray.append_assoc]
  rw [e3] at h ⊢
  simp only [ByteArray.size_append] at h
  have hw : IntKind.i64.wrap ((lv : Int) + 1) = ((lv + 1 : Nat) : Int) := by rw [wrap64 (by omega) (by omega)]; omega
  have kids := s_exprs_ok d es (by omega) he
  have thn := s_stmts d t htl ht
  refine spec_of_bodyH CX_mixed CX_gpk Tryd.func66 rfl 42 1 (fun c hc => by rw [List.mem_singleton.1 hc]; rfl) rfl rfl rfl rfl ?_
  refine go_ ?_
  with_reducible apply run_y
  exact want_
  · intro K hK
    refine ev_ ?_
    refine vcCall_bld (s_begin s (⟨#[105, 102, 32, 40]⟩ : ByteArray) lv (by omega) (by simp only [ByteArray.size_append]; omega)) (by kernel_rfl) (by decide) rfl ?_
    refine ev_ ?_
    exact hK
  refine go_ ?_
  with_reducible apply run_y
  exact want_
  · intro K hK
    refine ev_ ?_
    refine vcCall_bld (kids (s ++ indE lv ++ (⟨#[105, 102, 32, 40]⟩ : ByteArray)) (by simp only [ByteArray.size_append]; omega)) (by kernel_rfl) (by decide) rfl ?_
    refine ev_ ?_
    exact hK
  refine go_ ?_
  with_reducible apply run_y
  exact want_
  · intro K hK
    refine ev_ ?_
    refine vcCall_bld (s_end (s ++ indE lv ++ (⟨#[105, 102, 32, 40]⟩ : ByteArray) ++ prEs false es) (⟨#[41, 32, 123]⟩ : ByteArray) (by simp only [ByteArray.size_append]; omega)) (by kernel_rfl) (by decide) rfl ?_
    refine ev_ ?_
    exact hK
  refine go_ ?_
  rw [hw]
  with_reducible apply run_y
  exact want_
  · intro K hK
    refine ev_ ?_
    refine vcCall_bld (thn (s ++ indE lv ++ (⟨#[105, 102, 32, 40]⟩ : ByteArray) ++ prEs false es ++ (⟨#[41, 32, 123]⟩ : ByteArray) ++ (⟨#[10]⟩ : ByteArray)) (lv + 1) (by omega) (by simp only [ByteArray.size_append]; omega)) (by kernel_rfl) (by decide) rfl ?_
    refine ev_ ?_
    exact hK
  refine go_ ?_
  with_reducible apply run_y
  exact want_
  · intro K hK
    refine ev_ ?_
    refine vcCall_bld (s_line (s ++ indE lv ++ (⟨#[105, 102, 32, 40]⟩ : ByteArray) ++ prEs false es ++ (⟨#[41, 32, 123]⟩ : ByteArray) ++ (⟨#[10]⟩ : ByteArray) ++ prSs (lv + 1) t) (⟨#[125]⟩ : ByteArray) lv (by omega) (by simp only [ByteArray.size_append]; omega)) (by kernel_rfl) (by decide) rfl ?_
    refine ev_ ?_
    exact hK
  refine go_ ?_
  refine ev_ ?_
  exact .mk rfl (And.intro (And.intro rfl (And.intro rfl (by rfl))) trivial)
set_option maxHeartbeats 4000000 in
set_option maxRecDepth 100000 in
theorem s_ifelse (d : Nat) (nm : ByteArray) (es : List Ex) (hl : es.length ≤ 6) (he : ∀ e ∈ es, okE d e) (t : List Sm) (htl : t.length ≤ 1000000) (ht : ∀ x ∈ t, PutsS d x) (g : Sm) (f : List Sm) (hfl : (g :: f).length ≤ 1000000) (hf : ∀ x ∈ g :: f, PutsS d x) (s : ByteArray) (lv : Nat) (hlv : lv + (d + 1) ≤ 1000) (h : (s ++ prS lv (.mk 4 nm es t (g :: f))).size ≤ 140737488355328) : SpecH (Ctx.mk Tryd.prog globT 7 LaidT) 66 [.ptr 1 0, .agg (smC (.mk 4 nm es t (g :: f))), .v (.int .i64 (lv : Int))] [tapeB s] (.tup []) [tapeB (s ++ prS lv (.mk 4 nm es t (g :: f)))] := by
  have e3 : s ++ prS lv (.mk 4 nm es t (g :: f)) = s ++ indE lv ++ (⟨#[105, 102, 32, 40]⟩ : ByteArray) ++ prEs false es ++ (⟨#[41, 32, 123]⟩ : ByteArray) ++ (⟨#[10]⟩ : ByteArray) ++ prSs (lv + 1) t ++ indE lv ++ (⟨#[125, 32, 101, 108, 115, 101, 32, 123]⟩ : ByteArray) ++ (⟨#[10]⟩ : ByteArray) ++ prSs (lv + 1) (g :: f) ++ indE lv ++ (⟨#[125]⟩ : ByteArray) ++ (⟨#[10]⟩ : ByteArray) := by
    rw [show prS lv (.mk 4 nm es t (g :: f)) = indE lv ++ (⟨#[105, 102, 32, 40]⟩ : ByteArray) ++ prEs false es ++ (⟨#[41, 32, 123]⟩ : ByteArray) ++ (⟨#[10]⟩ : ByteArray) ++ prSs (lv + 1) t ++ (indE lv ++ (⟨#[125, 32, 101, 108, 115, 101, 32, 123]⟩ : ByteArray) ++ (⟨#[10]⟩ : ByteArray) ++ prSs (lv + 1) (g :: f)) ++ indE lv ++ (⟨#[125]⟩ : ByteArray) ++ (⟨#[10]⟩ : ByteArray) from rfl]
    simp only [ByteArray.append_assoc]
  rw [e3] at h ⊢
  simp only [ByteArray.size_append] at h
  have hw : IntKind.i64.wrap ((lv : Int) + 1) = ((lv + 1 : Nat) : Int) := by rw [wrap64 (by omega) (by omega)]; omega
  have kids := s_exprs_ok d es (by omega) he
  have thn := s_stmts d t htl ht
  have els := s_stmts d (g :: f) hfl hf
  have g0 : decide (((smsC (g :: f)).length : Int) > 0) = true := decide_eq_true (by rw [smsC_len]; simp)
  refine spec_of_bodyH CX_mixed CX_gpk Tryd.func66 rfl 42 1 (fun c hc => by rw [List.mem_singleton.1 hc]; rfl) rfl rfl rfl rfl ?_
  refine go_ ?_
  with_reducible apply run_y
  exact want_
  · intro K hK
    refine ev_ ?_
    refine vcCall_bld (s_begin s (⟨#[105, 102, 32, 40]⟩ : ByteArray) lv (by omega) (by simp only [ByteArray.size_append]; omega)) (by kernel_rfl) (by decide) rfl ?_
    refine ev_ ?_
    exact hK
  refine go_ ?_
  with_reducible apply run_y
  exact want_
  · intro K hK
    refine ev_ ?_
    refine vcCall_bld (kids (s ++ indE lv ++ (⟨#[105, 102, 32, 40]⟩ : ByteArray)) (by simp only [ByteArray.size_append]; omega)) (by kernel_rfl) (by decide) rfl ?_
    refine ev_ ?_
    exact hK
  refine go_ ?_
  with_reducible apply run_y
  exact want_
  · intro K hK
    refine ev_ ?_
    refine vcCall_bld (s_end (s ++ indE lv ++ (⟨#[105, 102, 32, 40]⟩ : ByteArray) ++ prEs false es) (⟨#[41, 32, 123]⟩ : ByteArray) (by simp only [ByteArray.size_append]; omega)) (by kernel_rfl) (by decide) rfl ?_
    refine ev_ ?_
    exact hK
  refine go_ ?_
  rw [hw]
  with_reducible apply run_y
  exact want_
  · intro K hK
    refine ev_ ?_
    refine vcCall_bld (thn (s ++ indE lv ++ (⟨#[105, 102, 32, 40]⟩ : ByteArray) ++ prEs false es ++ (⟨#[41, 32, 123]⟩ : ByteArray) ++ (⟨#[10]⟩ : ByteArray)) (lv + 1) (by omega) (by simp only [ByteArray.size_append]; omega)) (by kernel_rfl) (by decide) rfl ?_
    refine ev_ ?_
    exact hK
  refine go_ ?_
  with_reducible apply run_y
  exact want_
  · intro K hK
    refine ev_ ?_
    refine vcCall_bld (s_line (s ++ indE lv ++ (⟨#[105, 102, 32, 40]⟩ : ByteArray) ++ prEs false es ++ (⟨#[41, 32, 123]⟩ : ByteArray) ++ (⟨#[10]⟩ : ByteArray) ++ prSs (lv + 1) t) (⟨#[125, 32, 101, 108, 115, 101, 32, 123]⟩ : ByteArray) lv (by omega) (by simp only [ByteArray.size_append]; omega)) (by kernel_rfl) (by decide) rfl ?_
    refine ev_ ?_
    exact hK
  refine go_ ?_
  rw [hw]
  with_reducible apply run_y
  exact want_
  · intro K hK
    refine ev_ ?_
    refine vcCall_bld (els (s ++ indE lv ++ (⟨#[105, 102, 32, 40]⟩ : ByteArray) ++ prEs false es ++ (⟨#[41, 32, 123]⟩ : ByteArray) ++ (⟨#[10]⟩ : ByteArray) ++ prSs (lv + 1) t ++ indE lv ++ (⟨#[125, 32, 101, 108, 115, 101, 32, 123]⟩ : ByteArray) ++ (⟨#[10]⟩ : ByteArray)) (lv + 1) (by omega) (by simp only [ByteArray.size_append]; omega)) (by kernel_rfl) (by decide) rfl ?_
    refine ev_ ?_
    exact hK
  refine go_ ?_
  with_reducible apply run_y
  exact want_
  · intro K hK
    refine ev_ ?_
    refine vcCall_bld (s_line (s ++ indE lv ++ (⟨#[105, 102, 32, 40]⟩ : ByteArray) ++ prEs false es ++ (⟨#[41, 32, 123]⟩ : ByteArray) ++ (⟨#[10]⟩ : ByteArray) ++ prSs (lv + 1) t ++ indE lv ++ (⟨#[125, 32, 101, 108, 115, 101, 32, 123]⟩ : ByteArray) ++ (⟨#[10]⟩ : ByteArray) ++ prSs (lv + 1) (g :: f)) (⟨#[125]⟩ : ByteArray) lv (by omega) (by simp only [ByteArray.size_append]; omega)) (by kernel_rfl) (by decide) rfl ?_
    refine ev_ ?_
    exact hK
  refine go_ ?_
  refine ev_ ?_
  exact .mk rfl (And.intro (And.intro rfl (And.intro rfl (by rfl))) trivial)
set_option maxHeartbeats 4000000 in
set_option maxRecDepth 100000 in
theorem s_while0 (d : Nat) (nm : ByteArray) (es : List Ex) (hl : es.length ≤ 6) (he : ∀ e ∈ es, okE d e) (t : List Sm) (htl : t.length ≤ 1000000) (ht : ∀ x ∈ t, PutsS d x) (s : ByteArray) (lv : Nat) (hlv : lv + (d + 1) ≤ 1000) (h : (s ++ prS lv (.mk 5 nm es t [])).size ≤ 140737488355328) : SpecH (Ctx.mk Tryd.prog globT 7 LaidT) 66 [.ptr 1 0, .agg (smC (.mk 5 nm es t [])), .v (.int .i64 (lv : Int))] [tapeB s] (.tup []) [tapeB (s ++ prS lv (.mk 5 nm es t []))] := by
  have e3 : s ++ prS lv (.mk 5 nm es t []) = s ++ indE lv ++ (⟨#[119, 104, 105, 108, 101, 32, 40]⟩ : ByteArray) ++ prEs false es ++ (⟨#[41, 32, 123]⟩ : ByteArray) ++ (⟨#[10]⟩ : ByteArray) ++ prSs (lv + 1) t ++ indE lv ++ (⟨#[125]⟩ : ByteArray) ++ (⟨#[10]⟩ : ByteArray) := by
    rw [show prS lv (.mk 5 nm es t []) = indE lv ++ (⟨#[119, 104, 105, 108, 101, 32, 40]⟩ : ByteArray) ++ prEs false es ++ (⟨#[41, 32, 123]⟩ : ByteArray) ++ (⟨#[10]⟩ : ByteArray) ++ prSs (lv + 1) t ++ ByteArray.empty ++ indE lv ++ (⟨#[125]⟩ : ByteArray) ++ (⟨#[10]⟩ : ByteArray) from rfl, app_nil]
    simp only [ByteArray.append_assoc]
  rw [e3] at h ⊢
  simp only [ByteArray.size_append] at h
  have hw : IntKind.i64.wrap ((lv : Int) + 1) = ((lv + 1 : Nat) : Int) := by rw [wrap64 (by omega) (by omega)]; omega
  have kids := s_exprs_ok d es (by omega) he
  have thn := s_stmts d t htl ht
  refine spec_of_bodyH CX_mixed CX_gpk Tryd.func66 rfl 42 1 (fun c hc => by rw [List.mem_singleton.1 hc]; rfl) rfl rfl rfl rfl ?_
  refine go_ ?_
  with_reducible apply run_y
  exact want_
  · intro K hK
    refine ev_ ?_
    refine vcCall_bld (s_begin s (⟨#[119, 104, 105, 108, 101, 32, 40]⟩ : ByteArray) lv (by omega) (by simp only [ByteArray.size_append]; omega)) (by kernel_rfl) (by decide) rfl ?_
    refine ev_ ?_
    exact hK
  refine go_ ?_
  with_reducible apply run_y
  exact want_
  · intro K hK
    refine ev_ ?_
    refine vcCall_bld (kids (s ++ indE lv ++ (⟨#[119, 104, 105, 108, 101, 32, 40]⟩ : ByteArray)) (by simp only [ByteArray.size_append]; omega)) (by kernel_rfl) (by decide) rfl ?_
    refine ev_ ?_
    exact hK
  refine go_ ?_
  with_reducible apply run_y
  exact want_
  · intro K hK
    refine ev_ ?_
    refine vcCall_bld (s_end (s ++ indE lv ++ (⟨#[119, 104, 105, 108, 101, 32, 40]⟩ : ByteArray) ++ prEs false es) (⟨#[41, 32, 123]⟩ : ByteArray) (by simp only [ByteArray.size_append]; omega)) (by kernel_rfl) (by decide) rfl ?_
    refine ev_ ?_
    exact hK
  refine go_ ?_
  rw [hw]
  with_reducible apply run_y
  exact want_
  · intro K hK
    refine ev_ ?_
    refine vcCall_bld (thn (s ++ indE lv ++ (⟨#[119, 104, 105, 108, 101, 32, 40]⟩ : ByteArray) ++ prEs false es ++ (⟨#[41, 32, 123]⟩ : ByteArray) ++ (⟨#[10]⟩ : ByteArray)) (lv + 1) (by omega) (by simp only [ByteArray.size_append]; omega)) (by kernel_rfl) (by decide) rfl ?_
    refine ev_ ?_
    exact hK
  refine go_ ?_
  with_reducible apply run_y
  exact want_
  · intro K hK
    refine ev_ ?_
    refine vcCall_bld (s_line (s ++ indE lv ++ (⟨#[119, 104, 105, 108, 101, 32, 40]⟩ : ByteArray) ++ prEs false es ++ (⟨#[41, 32, 123]⟩ : ByteArray) ++ (⟨#[10]⟩ : ByteArray) ++ prSs (lv + 1) t) (⟨#[125]⟩ : ByteArray) lv (by omega) (by simp only [ByteArray.size_append]; omega)) (by kernel_rfl) (by decide) rfl ?_
    refine ev_ ?_
    exact hK
  refine go_ ?_
  refine ev_ ?_
  exact .mk rfl (And.intro (And.intro rfl (And.intro rfl (by rfl))) trivial)
end Go.Proofs.YtddggjmfplohkaaDoor
