import Derived.Test.YtddggjmfplohkaaDoorTe
import Derived.Test.YtddggjmfplohkaaDoorTg
/- Few of a program, the document's. -/
namespace Go.Proofs.YtddggjmfplohkaaDoor
open Go.RowKit
set_option linter.unnecessarySimpa false
theorem mapA_len (l : List Ar) : (l.map arC).length = l.length := List.length_map _
theorem mapF_len (l : List Fu) : (l.map fuC).length = l.length := List.length_map _
set_option maxHeartbeats 8000000 in
set_option maxRecDepth 100000 in
theorem s_few (p : Pg) (hL : PgL p) : Spec (Ctx.mk Tryd.prog globT 7 LaidT) 11 [.agg (pgC p), .v (.int .i64 100)] [] (.v (.bool (decide (0 < fewP p 100)))) [] := by
  have hr : reachBytes = 140737488351232 := rfl
  have hlow : lowN = -200000000000000 := rfl
  have h1 := hL.vars
  have h2 := hL.arrays
  have h3 := hL.funcs
  have hF := hL.fl
  have hw0 : IntKind.i64.wrap (IntKind.i64.wrap (IntKind.i64.wrap (100 - ((ssP p.vars).length : Int)) - ((p.arrays.map arC).length : Int)) - ((p.funcs.map fuC).length : Int)) = 100 - (p.vars.length : Int) - (p.arrays.length : Int) - (p.funcs.length : Int) := by
    rw [ssP_len, mapA_len, mapF_len, wrap64 (x := 100 - (p.vars.length : Int)) (by omega) (by omega), wrap64 (x := 100 - (p.vars.length : Int) - (p.arrays.length : Int)) (by omega) (by omega), wrap64 (by omega) (by omega)]
  have hbig : -1000000000000000 ≤ 100 - (p.vars.length : Int) - (p.arrays.length : Int) - (p.funcs.length : Int) := by omega
  have hsm : 100 - (p.vars.length : Int) - (p.arrays.length : Int) - (p.funcs.length : Int) ≤ 1000 := by omega
  clear h1 h2
  refine spec_of_bodyL CX_mixed CX_gpk Tryd.func11 rfl 54 0 rfl rfl rfl rfl ?_
  refine go_ ?_
  rw [hw0]
  clear hw0
  refine c_loop (fun k q m h => ∃ (j : Nat) (a : Int), j ≤ p.funcs.length ∧ -1000000000000000 ≤ a ∧ a ≤ 1000 ∧ (p.funcs.drop j).foldl stepF a = fewP p 100 ∧ k = p.funcs.length - j ∧ q = [.top, .top, .ptr 1 0, .top, .top, .v (.int .i64 a), .v (.int .i64 (j : Int))] ++ List.replicate 47 .top ∧ m = 2 ∧ h = [(1, .cells (pgC p))])
    ⟨_, _, _, _, ?_, ?_, ⟨0, _, Nat.zero_le _, hbig, hsm, rfl, rfl, rfl, rfl, rfl⟩⟩ ?_
  · rfl
  · skip
    exact sub_
  clear hbig hsm
  rintro k q m h hlen ⟨j, a, hj, ha1, ha2, ht, rfl, rfl, rfl, rfl⟩
  clear hlen
  by_cases hj' : j < p.funcs.length
  · have g1 : decide ((j : Int) < ((p.funcs.map fuC).length : Int)) = true := by rw [mapF_len]; exact decide_eq_true (by omega)
    by_cases hp : 0 < a
    · have g2 : (bif decide ((j : Int) < ((p.funcs.map fuC).length : Int)) then decide (a > 0) else false) = true := by rw [g1]; exact decide_eq_true hp
      have hw2 : IntKind.i64.wrap ((j : Int) + 1) = ((j + 1 : Nat) : Int) := by rw [wrap64 (by omega) (by omega)]; omega
      rw [drop_at hj', List.foldl_cons] at ht
      have hat := fuC_at hj'
      have hle := hF _ (List.getElem_mem hj')
      generalize p.funcs[j] = f at *
      obtain ⟨fn, fp, fl, fw, fb⟩ := f
      have q1 : fp.length ≤ reachBytes := hle.params
      have q2 : fl.length ≤ reachBytes := hle.locals
      have q3 : fb.length ≤ reachBytes := hle.body
      have q4 : ∀ x ∈ fb, SmL x := hle.bl
      clear hle
      have hw1 : IntKind.i64.wrap (IntKind.i64.wrap (a - ((ssP fp).length : Int)) - ((ssP fl).length : Int)) = a - (fp.length : Int) - (fl.length : Int) := by
        rw [ssP_len, ssP_len, wrap64 (x := a - (fp.length : Int)) (by omega) (by omega), wrap64 (by omega) (by omega)]
      have hst : stepF a ⟨fn, fp, fl, fw, fb⟩ = if 0 < a - (fp.length : Int) - (fl.length : Int) then fewS 40 fb (a - (fp.length : Int) - (fl.length : Int)) else a - (fp.length : Int) - (fl.length : Int) := by unfold stepF; rw [if_pos hp]
      rw [hst] at ht
      clear hst
      by_cases hb : 0 < a - (fp.length : Int) - (fl.length : Int)
      · have g3 : decide (IntKind.i64.wrap (IntKind.i64.wrap (a - ((ssP fp).length : Int)) - ((ssP fl).length : Int)) > 0) = true := by rw [hw1]; exact decide_eq_true hb
        have hc := fewS_ok 40 (by omega) fb (a - (fp.length : Int) - (fl.length : Int)) q3 q4 hb (by omega)
        obtain ⟨hb1, hb2⟩ := fewS_in 40 fb q3 q4 (a - (fp.length : Int) - (fl.length : Int)) (by omega) (by omega)
        rw [if_pos hb] at ht
        rw [show ((40 : Nat) : Int) = 40 from rfl] at hc
        refine go_ ?_
        with_reducible apply run_y
        exact want_
        · intro K hK
          refine ev_ ?_
          refine ⟨j, _, rfl, hat, rfl, ?_⟩
          refine ev_ ?_
          exact hK
        refine go_ ?_
        rw [hw1]
        with_reducible apply run_y
        exact want_
        · intro K hK
          refine ev_ ?_
          refine vcCall_plain (hc) (by kernel_rfl) ?_
          refine ev_ ?_
          exact hK
        refine go_ ?_
        rw [hw2]
        refine c_round ⟨_, _, _, _, ?_, ?_, ?_, ⟨j + 1, fewS 40 fb (a - (fp.length : Int) - (fl.length : Int)), by omega, by omega, by omega, ht, rfl, rfl, rfl, rfl⟩⟩
        · omega
        · rfl
        · skip
          exact sub_
      · have g3 : decide (IntKind.i64.wrap (IntKind.i64.wrap (a - ((ssP fp).length : Int)) - ((ssP fl).length : Int)) > 0) = false := by rw [hw1]; exact decide_eq_false hb
        rw [if_neg hb] at ht
        refine go_ ?_
        with_reducible apply run_y
        exact want_
        · intro K hK
          refine ev_ ?_
          refine ⟨j, _, rfl, hat, rfl, ?_⟩
          refine ev_ ?_
          exact hK
        refine go_ ?_
        rw [hw1, hw2]
        refine c_round ⟨_, _, _, _, ?_, ?_, ?_, ⟨j + 1, a - (fp.length : Int) - (fl.length : Int), by omega, by omega, by omega, ht, rfl, rfl, rfl, rfl⟩⟩
        · omega
        · rfl
        · skip
          exact sub_
    · have g2 : (bif decide ((j : Int) < ((p.funcs.map fuC).length : Int)) then decide (a > 0) else false) = false := by rw [g1]; exact decide_eq_false hp
      have e0 : a = fewP p 100 := by rw [← ht, stop_F _ a hp]
      refine go_ ?_
      refine ev_ ?_
      exact .mk (vb_eq (by rw [← e0])) trivial
  · have g1 : decide ((j : Int) < ((p.funcs.map fuC).length : Int)) = false := by rw [mapF_len]; exact decide_eq_false (by omega)
    have e0 : a = fewP p 100 := by
      rw [← ht, show j = p.funcs.length by omega, List.drop_length]; rfl
    refine go_ ?_
    refine ev_ ?_
    exact .mk (vb_eq (by rw [← e0])) trivial
end Go.Proofs.YtddggjmfplohkaaDoor
