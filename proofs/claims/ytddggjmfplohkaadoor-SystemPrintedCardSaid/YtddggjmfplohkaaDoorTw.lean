import Derived.Test.YtddggjmfplohkaaDoorTpr
/- The printer's walks: a tape is handed on. -/
namespace Go.Proofs.YtddggjmfplohkaaDoor
open Go.RowKit
set_option linter.unnecessarySimpa false
/-- A call that is handed a text that is being written. -/
theorem vcCall_bld {C : Ctx} {np : Nat} {f : FuncId} {hp : Nat → HC} {K : Eff → Prop} {r : PV} {T e : TypeId} {s s' : ByteArray} {b off : Nat} {az : List PV} (h : SpecH C f (.ptr 1 off :: az) [.bld T e s] r [.bld T e s']) (ha : az.all PV.plain = true) (h0 : b ≠ 0) (hb : hp b = .bld T e s)
    (hk : K ⟨r, [(b, .bld T e s')], [b]⟩) : vcCall C np f (.ptr b off :: az) hp K := by
  have hpl := List.all_eq_true.1 ha
  refine ⟨[], [b], .ptr 1 off :: az, [.bld T e s], r, [.bld T e s'], ?_, by simp, rfl, fun j hj => ?_, ?_, ?_, fun a h => ?_, h, fun j hj => ?_, hk⟩
  · rw [List.map_cons]
    congr 1
    rw [show az.map (ren [b]) = az.map id from List.map_congr_left fun a h => by
      have := hpl a h
      cases a <;> first | rfl | simp [PV.plain] at this]
    exact List.map_id az
  · have : j = 0 := by simpa using hj
    subst this
    exact ⟨h0, hb⟩
  · intro c hc
    rw [List.mem_singleton.1 hc]; rfl
  · intro c hc
    rw [List.mem_singleton.1 hc]; rfl
  · rcases List.mem_cons.1 h with rfl | h
    · exact .inr (.inl ⟨1, _, rfl, Nat.le_refl 1, Nat.le_refl 1⟩)
    · exact .inl (hpl a h)
  · cases j with
    | zero => rfl
    | succ j => simp [HC.isBld] at hj
set_option maxRecDepth 100000 in
theorem s_end (s x : ByteArray) (h : (s ++ x ++ ⟨#[10]⟩).size ≤ 140737488355328) : SpecH (Ctx.mk Tryd.prog globT 7 LaidT) 64 [.ptr 1 0, .v (.string x)] [tapeB s] (.tup []) [tapeB (s ++ x ++ ⟨#[10]⟩)] := by
  have h1 : s.size + x.size ≤ 140737488355328 := by simp at h; omega
  have h2 : (s ++ x).size + (⟨#[10]⟩ : ByteArray).size ≤ 140737488355328 := by simpa using h
  refine spec_of_bodyH CX_mixed CX_gpk Tryd.func64 rfl 13 1 (fun c hc => by rw [List.mem_singleton.1 hc]; rfl) rfl rfl rfl rfl ?_
  refine go_ ?_
  with_reducible apply run_y
  exact want_
  · intro K hK
    refine ev_ ?_
    refine vcCall_bld (s_write s x h1) (by kernel_rfl) (by decide) rfl ?_
    refine ev_ ?_
    exact hK
  refine go_ ?_
  with_reducible apply run_y
  exact want_
  · intro K hK
    refine ev_ ?_
    refine vcCall_bld (s_write (s ++ x) ⟨#[10]⟩ h2) (by kernel_rfl) (by decide) rfl ?_
    refine ev_ ?_
    exact hK
  refine go_ ?_
  refine ev_ ?_
  exact .mk rfl (And.intro (And.intro rfl (And.intro rfl (by rfl))) trivial)
theorem ind_size (n : Nat) : (indE n).size = 2 * n := by
  induction n with
  | zero => rfl
  | succ n ih => rw [indE, ByteArray.size_append, ih, show (⟨#[32, 32]⟩ : ByteArray).size = 2 from rfl]; omega
theorem ind_step (s : ByteArray) (j : Nat) : s ++ indE j ++ ⟨#[32, 32]⟩ = s ++ indE (j + 1) := by rw [indE, ByteArray.append_assoc]
set_option maxRecDepth 100000 in
theorem s_begin (s x : ByteArray) (n : Nat) (hn : n ≤ 1000) (h : (s ++ indE n ++ x).size ≤ 140737488355328) : SpecH (Ctx.mk Tryd.prog globT 7 LaidT) 34 [.ptr 1 0, .v (.int .i64 (n : Int)), .v (.string x)] [tapeB s] (.tup []) [tapeB (s ++ indE n ++ x)] := by
  rw [ByteArray.size_append, ByteArray.size_append, ind_size] at h
  refine spec_of_bodyH CX_mixed CX_gpk Tryd.func34 rfl 19 1 (fun c hc => by rw [List.mem_singleton.1 hc]; rfl) rfl rfl rfl rfl ?_
  refine go_ ?_
  refine c_loop (fun k q m h => ∃ j : Nat, j ≤ n ∧ k = n - j ∧ q = [.ptr 1 0, .top, .v (.string x), .top, .top, .top, .v (.int .i64 (n : Int)), .v (.int .i64 (j : Int))] ++ List.replicate 11 .top ∧ m = 2 ∧ h = [(1, tapeB (s ++ indE j))])
    ⟨_, _, _, _, ?_, ?_, ⟨0, Nat.zero_le _, rfl, rfl, rfl, rfl⟩⟩ ?_
  · rfl
  · rw [show s ++ indE 0 = s from app_nil s]
    exact sub_
  · rintro k q m h2 hlen ⟨j, hj, rfl, rfl, rfl, rfl⟩
    clear hlen
    refine go_ ?_
    first | refine run_b rfl rfl rfl (fun hb => ?_) (fun hb => ?_) | refine c_cond rfl (fun hb => ?_) (fun hb => ?_)
    · have hj' : j < n := by have := of_decide_eq_true hb; omega
      have hw2 : IntKind.i64.wrap ((j : Int) + 1) = ((j + 1 : Nat) : Int) := by rw [wrap64 (by omega) (by omega)]; omega
      refine go_ ?_
      with_reducible apply run_y
      exact want_
      · intro K hK
        refine ev_ ?_
        refine vcCall_bld (s_write (s ++ indE j) ⟨#[32, 32]⟩ (by rw [ByteArray.size_append, ind_size, show (⟨#[32, 32]⟩ : ByteArray).size = 2 from rfl]; omega)) (by kernel_rfl) (by decide) rfl ?_
        refine ev_ ?_
        exact hK
      refine go_ ?_
      rw [hw2, ind_step]
      refine c_round ⟨_, _, _, _, ?_, ?_, ?_, ⟨j + 1, by omega, rfl, rfl, rfl, rfl⟩⟩
      · omega
      · rfl
      · skip
        exact sub_
    · have hj' : j = n := by have := of_decide_eq_false hb; omega
      subst hj'
      refine go_ ?_
      with_reducible apply run_y
      exact want_
      · intro K hK
        refine ev_ ?_
        refine vcCall_bld (s_write (s ++ indE j) x (by rw [ByteArray.size_append, ind_size]; omega)) (by kernel_rfl) (by decide) rfl ?_
        refine ev_ ?_
        exact hK
      refine go_ ?_
      refine ev_ ?_
      exact .mk rfl (And.intro (And.intro rfl (And.intro rfl (by rfl))) trivial)
set_option maxRecDepth 100000 in
theorem s_line (s x : ByteArray) (n : Nat) (hn : n ≤ 1000) (h : (s ++ indE n ++ x ++ ⟨#[10]⟩).size ≤ 140737488355328) : SpecH (Ctx.mk Tryd.prog globT 7 LaidT) 13 [.ptr 1 0, .v (.int .i64 (n : Int)), .v (.string x)] [tapeB s] (.tup []) [tapeB (s ++ indE n ++ x ++ ⟨#[10]⟩)] := by
  rw [ByteArray.size_append] at h
  refine spec_of_bodyH CX_mixed CX_gpk Tryd.func13 rfl 14 1 (fun c hc => by rw [List.mem_singleton.1 hc]; rfl) rfl rfl rfl rfl ?_
  refine go_ ?_
  with_reducible apply run_y
  exact want_
  · intro K hK
    refine ev_ ?_
    refine vcCall_bld (s_begin s x n hn (by omega)) (by kernel_rfl) (by decide) rfl ?_
    refine ev_ ?_
    exact hK
  refine go_ ?_
  with_reducible apply run_y
  exact want_
  · intro K hK
    refine ev_ ?_
    refine vcCall_bld (s_write (s ++ indE n ++ x) ⟨#[10]⟩ h) (by kernel_rfl) (by decide) rfl ?_
    refine ev_ ?_
    exact hK
  refine go_ ?_
  refine ev_ ?_
  exact .mk rfl (And.intro (And.intro rfl (And.intro rfl (by rfl))) trivial)
def exV (k o : Int) (n : UInt32) (s : ByteArray) (ks : List Ex) : List PV := [.v (.int .i64 k), .v (.int .i64 o), .v (.int .u32 n.toNat), .v (.string s), .sl .any (exsC ks)]
theorem signs_at {o : Int} (h1 : 4 ≤ o) (h2 : o ≤ 15) : ∃ j : Nat, o - 4 = (j : Int) ∧ j < 12 ∧ signsP.drop j = .v (.string (opE o)) :: signsP.drop (j + 1) := by
  obtain ⟨j, rfl⟩ : ∃ j : Nat, o = (j : Int) + 4 := ⟨(o - 4).toNat, by omega⟩
  have hj : j < 12 := by omega
  refine ⟨j, by omega, hj, ?_⟩
  have e : opE ((j : Int) + 4) = signsL.getD j ByteArray.empty := by
    unfold opE
    rw [if_pos (by omega), show ((j : Int) + 4 - 4).toNat = j by omega]
  rw [e]
  match j, hj with
  | 0, _ => rfl
  | 1, _ => rfl
  | 2, _ => rfl
  | 3, _ => rfl
  | 4, _ => rfl
  | 5, _ => rfl
  | 6, _ => rfl
  | 7, _ => rfl
  | 8, _ => rfl
  | 9, _ => rfl
  | 10, _ => rfl
  | 11, _ => rfl
set_option maxRecDepth 100000 in
theorem s_sign (k o : Int) (n : UInt32) (s : ByteArray) (ks : List Ex) (ho : k ≠ 8 → k ≠ 9 → 4 ≤ o ∧ o ≤ 15) : Spec (Ctx.mk Tryd.prog globT 7 LaidT) 92 [.agg (exV k o n s ks)] [] (.v (.string (sgE k o))) [] := by
  refine spec_of_bodyL CX_mixed CX_gpk Tryd.func92 rfl 14 0 rfl rfl rfl rfl ?_
  refine go_ ?_
  by_cases h8 : k = 8
  · subst h8
    refine go_ ?_
    refine ev_ ?_
    exact .mk (by rfl) trivial
  · by_cases h9 : k = 9
    · subst h9
      refine go_ ?_
      refine ev_ ?_
      exact .mk (by rfl) trivial
    · obtain ⟨h1, h2⟩ := ho h8 h9
      have g8 : (k == 8) = false := by simpa using h8
      have g9 : (k == 9) = false := by simpa using h9
      obtain ⟨j, hj, hj12, hat⟩ := signs_at h1 h2
      have hw : IntKind.i64.wrap (o - 4) = (j : Int) := by rw [wrap64 (by omega) (by omega)]; exact hj
      have hs : sgE k o = opE o := by unfold sgE; rw [if_neg h8, if_neg h9]
      rw [hs]
      refine go_ ?_
      rw [hw]
      with_reducible apply run_y
      exact want_
      · intro K hK
        refine ev_ ?_
        refine ⟨j, rfl, hj12, ?_⟩
        refine ev_ ?_
        exact hK
      conv =>
        pattern (occs := *) (List.drop (j * _) signsP)
        all_goals change List.drop (j * 1) signsP
      rw [Nat.mul_one, hat]
      refine go_ ?_
      refine ev_ ?_
      exact .mk (by rfl) trivial
end Go.Proofs.YtddggjmfplohkaaDoor
