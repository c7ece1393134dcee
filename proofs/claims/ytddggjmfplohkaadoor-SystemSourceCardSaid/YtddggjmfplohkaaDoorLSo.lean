import Derived.Test.YtddggjmfplohkaaDoorRr
import Derived.Test.YtddggjmfplohkaaDoorWe
import Derived.Test.YtddggjmfplohkaaDoorTz
/- SystemSource: whatever text is a program is read, printed, as the same one. -/
namespace Go.Proofs.YtddggjmfplohkaaDoor
open Go Go.RowKit
/-- A call that is handed no box, and has no one result: walked where it stands. -/
theorem specI_of_R {C : Ctx} {f : FuncId} {ars : List PV} {R : Bool → PV → List HC → Prop} (h : SpecR C f ars [] R) (hp : ars.all PV.plain = true) (hr : ∀ b r outs, R b r outs → b = true ∧ outs = []) (m : Nat) (hh : List (Nat × HC)) : SpecI C f ars m hh (fun p m' h' => m' = m ∧ h' = hh ∧ R true p []) := by
  intro w0 pb F0 E vs hR ha hpb
  have hpl := List.all_eq_true.1 hp
  have hid : ars.map (ren []) = ars := by
    rw [show ars.map (ren []) = ars.map id from List.map_congr_left fun a h => by
      have := hpl a h
      cases a <;> first | rfl | simp [PV.plain] at this]
    exact List.map_id ars
  refine (callR_sound hR ha (ids := []) (css := []) hid List.nodup_nil rfl (fun j hj => (by cases hj)) (fun c hc => (by cases hc)) (fun a ha => .inl (hpl a ha)) h fun b r outs hb => ?_).mono ?_
  · obtain ⟨-, rfl⟩ := hr b r outs hb
    exact ⟨fun c hc => (by cases hc), fun j hj => (by simp [HC.isBld] at hj)⟩
  · rintro e w' ⟨b, r, outs, z, hb, rfl, E', rfl, k1, k2, k3⟩
    obtain ⟨rfl, rfl⟩ := hr b r outs hb
    refine ⟨z, r, m, hh, E', rfl, rfl, k1, k3, ?_, rfl, rfl, hb⟩
    exact (Env.cut_self E m).trans k2
theorem s_parse_ok {t : ByteArray} {l : List Tk} {p : Pg} (ht : t.size ≤ 20000) (hl : lexE t (t.size + 1) 0 = .ok l) (hp : progE l = some (p, l.length)) (hr : rP p = true) : Spec (Ctx.mk Tryd.prog globU 7 LaidU) 8 [.v (.string t)] [] (.tup [.agg (pgC p), .v (.int .i64 0), .v (.int .i64 0)]) [] := by
  refine SpecR.ret (s_parse t ht) ?_
  rintro b r outs ⟨rfl, rfl, hout⟩
  cases hout with
  | err a x hx ha hno =>
    rw [hno l p hl hp] at hr
    cases hr
  | ok l' p' hl' hp' hr' =>
    rw [hl] at hl'
    cases hl'
    rw [hp] at hp'
    cases hp'
    exact ⟨rfl, rfl, rfl⟩
theorem tok_drop {s : ByteArray} {l : List Tk} {a j : Nat} (h : TokIn s a (l.drop j)) (hj : j < l.length) : ∃ b : Nat, l[j].at_ = (b : Int) ∧ a ≤ b ∧ b + l[j].text.size ≤ s.size ∧ s.extract b (b + l[j].text.size) = l[j].text ∧ TokIn s (b + l[j].text.size) (l.drop (j + 1)) := by
  rw [List.drop_eq_getElem_cons hj] at h
  exact h
set_option maxHeartbeats 16000000 in
set_option maxRecDepth 100000 in
theorem s_source0 (hsame : ∀ p, OkP p → Spec (Ctx.mk Tryd.prog globU 7 LaidU) 7 [.agg (pgC p), .agg (pgC p)] [] (.v (.bool true)) []) (s : ByteArray) : Spec (Ctx.mk Tryd.prog globU 7 LaidU) 4 [.v (.string s)] [] (.v (.bool true)) [] := by
  refine spec_of_bodyL CX_mixed CU_gpk Tryd.func4 rfl 147 0 rfl rfl rfl rfl ?_
  by_cases h0 : s.size ≤ 1000
  rotate_left
  · have g0 : decide (((s.size : Nat) : Int) > 1000) = true := decide_eq_true (by omega)
    refine go_ ?_
    refine ev_ ?_
    exact .mk (vb_eq (by rfl)) trivial
  have g0 : decide (((s.size : Nat) : Int) > 1000) = false := decide_eq_false (by omega)
  have hask := specI_of_R (s_parse s (by omega)) rfl (fun b r outs h => ⟨h.1, h.2.1⟩)
  refine goto_ 3 ?_
  with_reducible apply c_seq
  with_reducible apply c_regI
  with_reducible apply runI_y
  exact want_
  exact step_
  refine runI_inl _ _ _ want_ (by (conv => whnf); exact ⟨by kernel_rfl, rfl, rfl⟩) rfl rfl (hask _ _) ?_
  rintro p m' h' ⟨rfl, rfl, -, -, hout⟩
  cases hout with
  | err a x hx ha hno =>
    have hx : (x != 0) = true := by simpa using hx
    have c1 : decide (a ≥ 0) = true := decide_eq_true ha.1
    have c2 : decide (a ≤ ((s.size : Nat) : Int)) = true := decide_eq_true ha.2
    simp only [putL, setL, List.replicate_succ, List.replicate_zero]
    with_reducible apply runI_y
    exact want_
    exact step_
    with_reducible apply runI_y
    exact want_
    exact step_
    with_reducible apply runI_y
    exact want_
    exact step_
    with_reducible apply runI_y
    exact want_
    exact step_
    with_reducible apply runI_y
    exact want_
    exact step_
    with_reducible apply runI_y
    exact want_
    exact step_
    with_reducible apply runI_y
    exact want_
    exact step_
    with_reducible apply runI_y
    exact want_
    exact step_
    with_reducible apply runI_end
    refine go_ ?_
    refine ev_ ?_
    exact .mk (vb_eq (by (rw [c1, c2]; rfl))) trivial
  | ok l p hl hp hr =>
    simp only [putL, setL, List.replicate_succ, List.replicate_zero]
    with_reducible apply runI_y
    exact want_
    exact step_
    with_reducible apply runI_y
    exact want_
    exact step_
    with_reducible apply runI_y
    exact want_
    exact step_
    with_reducible apply runI_y
    exact want_
    exact step_
    with_reducible apply runI_y
    exact want_
    exact step_
    with_reducible apply runI_y
    exact want_
    exact step_
    with_reducible apply runI_y
    exact want_
    exact step_
    with_reducible apply runI_y
    exact want_
    exact step_
    with_reducible apply runI_end
    obtain ⟨hsp, hnl⟩ := prog_sz hp
    have hlen := lex_len _ _ (Nat.zero_le _) hl
    have hin := lex_in _ _ (Nat.zero_le _) hl
    obtain ⟨hok, hrp⟩ := hsp.ok (by omega) hr
    have hlex : Spec (Ctx.mk Tryd.prog globU 7 LaidU) 9 [.v (.string s)] [] (.tup [.sl .any (l.map tkC), .v (.int .i64 0), .v (.int .i64 0)]) [] := by
      have := s_lex s (by omega)
      rw [hl] at this
      exact this
    have hpr := up_s (s_print p hok)
    have hxr := s_xright p (hsp.bd (by omega))
    rw [hr] at hxr
    have hsm := hsame p hok
    obtain ⟨l2, hl2, hp2⟩ := printed hrp
    generalize hT : prP p = T at *
    refine go_ ?_
    with_reducible apply run_y
    exact want_
    · intro K hK
      refine ev_ ?_
      refine vcCall_plain (hlex) (by kernel_rfl) ?_
      refine ev_ ?_
      exact hK
    refine go_ ?_
    with_reducible apply run_y
    exact want_
    · intro K hK
      refine ev_ ?_
      refine vcCall_plain (hpr) (by kernel_rfl) ?_
      refine ev_ ?_
      exact hK
    refine go_ ?_
    by_cases hT18 : T.size ≤ 18000
    rotate_left
    · have g1 : decide (((T.size : Nat) : Int) > 18000) = true := decide_eq_true (by omega)
      refine go_ ?_
      refine ev_ ?_
      exact .mk (vb_eq (by rfl)) trivial
    have g1 : decide (((T.size : Nat) : Int) > 18000) = false := decide_eq_false (by omega)
    have hq := s_parse_ok (by omega) hl2 hp2 hr
    refine go_ ?_
    with_reducible apply run_y
    exact want_
    · intro K hK
      refine ev_ ?_
      refine vcCall_plain (hq) (by kernel_rfl) ?_
      refine ev_ ?_
      exact hK
    refine go_ ?_
    refine c_loop (fun k q m h => ∃ j last : Nat, j ≤ l.length ∧ last ≤ s.size ∧ TokIn s last (l.drop j) ∧ k = l.length - j ∧ q = [.v (.string s), .top, .top, .ptr 1 0, .top, .top, .sl .any (l.map tkC), .top, .v (.int .i64 0), .v (.string T), .ptr 2 0, .top, .v (.int .i64 0), .v (.int .i64 (last : Int)), .v (.int .i64 (j : Int))] ++ List.replicate 132 .top ∧ m = 3 ∧ h = [(1, .cells (pgC p)), (2, .cells (pgC p))])
      ⟨_, _, _, _, ?_, ?_, ⟨0, 0, Nat.zero_le _, Nat.zero_le _, hin, rfl, rfl, rfl, rfl⟩⟩ ?_
    · rfl
    · skip
      exact sub_
    rintro k q m h hlen2 ⟨j, last, hj, hla, htk, rfl, rfl, rfl, rfl⟩
    clear hlen2
    have hll : (((l.map tkC).length : Nat) : Int) = (l.length : Int) := by rw [tkC_len]
    by_cases hj' : j < l.length
    · have c0 : decide ((j : Int) < ((l.map tkC).length : Int)) = true := decide_eq_true (by omega)
      have hw2 : IntKind.i64.wrap ((j : Int) + 1) = ((j + 1 : Nat) : Int) := by rw [wrap64 (by omega) (by omega)]; omega
      have hat := tkC_at hj'
      obtain ⟨b, hb1, hb2, hb3, hb4, hb5⟩ := tok_drop htk hj'
      generalize l[j] = t at *
      obtain ⟨tk, tt, tn, ta⟩ := t
      simp only at hb1 hb3 hb4 hb5
      subst hb1
      have hw3 : IntKind.i64.wrap ((b : Int) + ((tt.size : Nat) : Int)) = ((b + tt.size : Nat) : Int) := by rw [wrap64 (by omega) (by omega)]; omega
      have d0 : decide ((b : Int) < (last : Int)) = false := decide_eq_false (by omega)
      have d1 : decide (((b + tt.size : Nat) : Int) > ((s.size : Nat) : Int)) = false := decide_eq_false (by omega)
      have d2 : (bif decide ((b : Int) < (last : Int)) then true else decide (((b + tt.size : Nat) : Int) > ((s.size : Nat) : Int))) = false := by rw [d0, d1]; rfl
      have d3 : (!decide (tt = tt)) = false := by rw [decide_eq_true rfl]; rfl
      have d4 : (bif (bif decide ((b : Int) < (last : Int)) then true else decide (((b + tt.size : Nat) : Int) > ((s.size : Nat) : Int))) then true else !decide (tt = tt)) = false := by rw [d2, d3]; rfl
      refine go_ ?_
      with_reducible apply run_y
      exact want_
      · intro K hK
        refine ev_ ?_
        refine ⟨j, _, rfl, hat, rfl, ?_⟩
        refine ev_ ?_
        exact hK
      refine go_ ?_
      with_reducible apply run_y
      exact want_
      · intro K hK
        refine ev_ ?_
        refine ⟨j, _, rfl, hat, rfl, ?_⟩
        refine ev_ ?_
        exact hK
      refine go_ ?_
      with_reducible apply run_y
      exact want_
      · intro K hK
        refine ev_ ?_
        refine ⟨j, _, rfl, hat, rfl, ?_⟩
        refine ev_ ?_
        exact hK
      refine go_ ?_
      rw [hw3]
      refine go_ ?_
      with_reducible apply run_y
      exact want_
      · intro K hK
        refine ev_ ?_
        refine ⟨j, _, rfl, hat, rfl, ?_⟩
        refine ev_ ?_
        exact hK
      refine go_ ?_
      with_reducible apply run_y
      exact want_
      · intro K hK
        refine ev_ ?_
        refine ⟨j, _, rfl, hat, rfl, ?_⟩
        refine ev_ ?_
        exact hK
      refine go_ ?_
      with_reducible apply run_y
      exact want_
      · intro K hK
        refine ev_ ?_
        refine ⟨j, _, rfl, hat, rfl, ?_⟩
        refine ev_ ?_
        exact hK
      refine go_ ?_
      rw [hw3]
      with_reducible apply run_y
      exact want_
      · intro K hK
        refine ev_ ?_
        refine ⟨b, b + tt.size, tt, rfl, rfl, Nat.le_add_right _ _, hb3, rfl, hb4, ?_⟩
        refine ev_ ?_
        exact hK
      refine go_ ?_
      with_reducible apply run_y
      exact want_
      · intro K hK
        refine ev_ ?_
        refine ⟨j, _, rfl, hat, rfl, ?_⟩
        refine ev_ ?_
        exact hK
      refine go_ ?_
      with_reducible apply run_y
      exact want_
      · intro K hK
        refine ev_ ?_
        refine ⟨j, _, rfl, hat, rfl, ?_⟩
        refine ev_ ?_
        exact hK
      refine go_ ?_
      with_reducible apply run_y
      exact want_
      · intro K hK
        refine ev_ ?_
        refine ⟨j, _, rfl, hat, rfl, ?_⟩
        refine ev_ ?_
        exact hK
      refine go_ ?_
      rw [hw3, hw2]
      refine c_round ⟨_, _, _, _, ?_, ?_, ?_, ⟨j + 1, b + tt.size, by omega, hb3, hb5, rfl, rfl, rfl, rfl⟩⟩
      · omega
      · rfl
      · skip
        exact sub_
    · have c0 : decide ((j : Int) < ((l.map tkC).length : Int)) = false := decide_eq_false (by omega)
      have e1 : decide (T = T) = true := decide_eq_true rfl
      refine go_ ?_
      with_reducible apply run_y
      exact want_
      · intro K hK
        refine ev_ ?_
        refine vcCall_plain (hxr) (by kernel_rfl) ?_
        refine ev_ ?_
        exact hK
      refine go_ ?_
      with_reducible apply run_y
      exact want_
      · intro K hK
        refine ev_ ?_
        refine vcCall_plain (hsm) (by kernel_rfl) ?_
        refine ev_ ?_
        exact hK
      refine go_ ?_
      with_reducible apply run_y
      exact want_
      · intro K hK
        refine ev_ ?_
        refine vcCall_plain (hpr) (by kernel_rfl) ?_
        refine ev_ ?_
        exact hK
      refine go_ ?_
      refine ev_ ?_
      exact .mk (vb_eq (by (rw [e1]; rfl))) trivial
end Go.Proofs.YtddggjmfplohkaaDoor
