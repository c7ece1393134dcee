import Derived.Test.YtddggjmfplohkaaDoorTe
import Derived.Test.YtddggjmfplohkaaDoorTg
/- Right of a program, the document's. -/
namespace Go.Proofs.YtddggjmfplohkaaDoor
open Go.RowKit
set_option linter.unnecessarySimpa false
theorem mapA_len' (l : List Ar) : (l.map arC).length = l.length := List.length_map _
theorem mapF_len' (l : List Fu) : (l.map fuC).length = l.length := List.length_map _
theorem rP_a {p : Pg} {j : Nat} (hj : j < p.arrays.length) (h : arOk p.arrays[j] = false) : rP p = false := by
  have : p.arrays.all arOk = false := by
    rw [List.all_eq_false]
    exact ⟨p.arrays[j], List.getElem_mem hj, by rw [h]; decide⟩
  unfold rP
  rw [this]
  simp
theorem rP_f {p : Pg} {j : Nat} (hj : j < p.funcs.length) (h : fuOk p.funcs[j] = false) : rP p = false := by
  have : p.funcs.all fuOk = false := by
    rw [List.all_eq_false]
    exact ⟨p.funcs[j], List.getElem_mem hj, by rw [h]; decide⟩
  unfold rP
  rw [this]
  simp
theorem all_at {α : Type} {l : List α} {g : α → Bool} (h : ∀ i (hi : i < l.length), g l[i] = true) : l.all g = true := by
  rw [List.all_eq_true]
  intro b hb
  obtain ⟨i, hi, rfl⟩ := List.getElem_of_mem hb
  exact h i hi
theorem step_at {α : Type} {l : List α} {g : α → Bool} {j : Nat} (hj : j < l.length) (hn : ∀ i (hi : i < l.length), i < j → g l[i] = true) (h : g l[j] = true) : ∀ i (hi : i < l.length), i < j + 1 → g l[i] = true := fun i hi hij => by
  by_cases e : i = j
  · subst e; exact h
  · exact hn i hi (by omega)
/-- Whether the bodies may be is told. -/
def BodyTold (p : Pg) : Prop := ∀ f ∈ p.funcs, Spec (Ctx.mk Tryd.prog globT 7 LaidT) 33 [.sl .any (smsC f.body), .v (.int .i64 1)] [] (.v (.bool (f.body.all fun x => rS 24 x))) []
set_option maxHeartbeats 8000000 in
set_option maxRecDepth 100000 in
theorem s_rRight (p : Pg) (hs : ShP p) (hT : BodyTold p) : Spec (Ctx.mk Tryd.prog globT 7 LaidT) 12 [.agg (pgC p)] [] (.v (.bool (rP p))) [] := by
  have h1 := hs.vars
  have h2 := hs.arrs
  have h3 := hs.funs
  have hF := hs.fn
  have hv := s_rnames p.vars (by omega)
  have l3 : ((p.funcs.map fuC).length : Int) = (p.funcs.length : Int) := by rw [mapF_len']
  refine spec_of_bodyL CX_mixed CX_gpk Tryd.func12 rfl 95 0 rfl rfl rfl rfl ?_
  refine go_ ?_
  with_reducible apply run_y
  exact want_
  · intro K hK
    refine ev_ ?_
    refine vcCall_plain (hv) (by kernel_rfl) ?_
    refine ev_ ?_
    exact hK
  refine go_ ?_
  clear hv
  by_cases v1 : p.vars.all isE = true
  · have g1 : (!p.vars.all isE) = false := by rw [v1]; rfl
    by_cases f1 : 1 ≤ p.funcs.length
    · have g2 : (bif !p.vars.all isE then true else decide (((p.funcs.map fuC).length : Int) < 1)) = false := by rw [g1]; exact decide_eq_false (by omega)
      by_cases f2 : p.funcs.length ≤ 64
      · have g3 : (bif (bif !p.vars.all isE then true else decide (((p.funcs.map fuC).length : Int) < 1)) then true else decide (((p.funcs.map fuC).length : Int) > 64)) = false := by rw [g2]; exact decide_eq_false (by omega)
        have hend : (∀ i (hi : i < p.arrays.length), arOk p.arrays[i] = true) → (∀ i (hi : i < p.funcs.length), fuOk p.funcs[i] = true) → rP p = true := fun ha hf => by
          unfold rP
          rw [v1, decide_eq_true f1, decide_eq_true f2, all_at ha, all_at hf]
          rfl
        refine go_ ?_
        clear g1 g2 g3
        refine c_loop (fun k q m h => ∃ j : Nat, j ≤ p.arrays.length ∧ (∀ i (hi : i < p.arrays.length), i < j → arOk p.arrays[i] = true) ∧ k = p.arrays.length - j ∧ q = [.top, .ptr 1 0, .top, .v (.int .i64 (j : Int))] ++ List.replicate 91 .top ∧ m = 2 ∧ h = [(1, .cells (pgC p))])
          ⟨_, _, _, _, ?_, ?_, ⟨0, Nat.zero_le _, fun i hi h => by omega, rfl, rfl, rfl, rfl⟩⟩ ?_
        · rfl
        · skip
          exact sub_
        rintro k q m h hlen ⟨j, hj, hn, rfl, rfl, rfl, rfl⟩
        clear hlen
        refine go_ ?_
        first | refine run_b rfl rfl rfl (fun hb => ?_) (fun hb => ?_) | refine c_cond rfl (fun hb => ?_) (fun hb => ?_)
        · have hj' : j < p.arrays.length := by have := of_decide_eq_true hb; rw [mapA_len'] at this; omega
          have hw2 : IntKind.i64.wrap ((j : Int) + 1) = ((j + 1 : Nat) : Int) := by rw [wrap64 (by omega) (by omega)]; omega
          have hat := arC_at hj'
          have hnot := fun h => rP_a (p := p) hj' h
          have hyes := fun h => step_at (g := arOk) hj' hn h
          clear hend hn
          generalize p.arrays[j] = e at *
          obtain ⟨an, az⟩ := e
          have hok : arOk ⟨an, az⟩ = (isE an && (decide (1 ≤ az) && decide (az ≤ 4096))) := rfl
          refine go_ ?_
          with_reducible apply run_y
          exact want_
          · intro K hK
            refine ev_ ?_
            refine ⟨j, _, rfl, hat, rfl, ?_⟩
            refine ev_ ?_
            exact hK
          refine go_ ?_
          with_reducible apply run_y
          exact want_
          · intro K hK
            refine ev_ ?_
            refine vcCall_plain (s_isName an) (by kernel_rfl) ?_
            refine ev_ ?_
            exact hK
          by_cases n1 : isE an = true
          · have k1 : (!isE an) = false := by rw [n1]; rfl
            by_cases z1 : az < 1
            · have k2 : (bif !isE an then true else decide (az < 1)) = true := by rw [k1]; exact decide_eq_true z1
              refine go_ ?_
              with_reducible apply run_y
              exact want_
              · intro K hK
                refine ev_ ?_
                refine ⟨j, _, rfl, hat, rfl, ?_⟩
                refine ev_ ?_
                exact hK
              refine go_ ?_
              refine ev_ ?_
              exact .mk (vb_eq (by rw [hnot (by rw [hok, n1, decide_eq_false (show ¬ 1 ≤ az by omega)]; rfl)])) trivial
            · have k2 : (bif !isE an then true else decide (az < 1)) = false := by rw [k1]; exact decide_eq_false z1
              by_cases z2 : az > 4096
              · have k3 : (bif (bif !isE an then true else decide (az < 1)) then true else decide (az > 4096)) = true := by rw [k2]; exact decide_eq_true z2
                refine go_ ?_
                with_reducible apply run_y
                exact want_
                · intro K hK
                  refine ev_ ?_
                  refine ⟨j, _, rfl, hat, rfl, ?_⟩
                  refine ev_ ?_
                  exact hK
                refine go_ ?_
                with_reducible apply run_y
                exact want_
                · intro K hK
                  refine ev_ ?_
                  refine ⟨j, _, rfl, hat, rfl, ?_⟩
                  refine ev_ ?_
                  exact hK
                refine go_ ?_
                refine ev_ ?_
                exact .mk (vb_eq (by rw [hnot (by rw [hok, n1, decide_eq_true (show 1 ≤ az by omega), decide_eq_false (show ¬ az ≤ 4096 by omega)]; rfl)])) trivial
              · have k3 : (bif (bif !isE an then true else decide (az < 1)) then true else decide (az > 4096)) = false := by rw [k2]; exact decide_eq_false z2
                refine go_ ?_
                with_reducible apply run_y
                exact want_
                · intro K hK
                  refine ev_ ?_
                  refine ⟨j, _, rfl, hat, rfl, ?_⟩
                  refine ev_ ?_
                  exact hK
                refine go_ ?_
                with_reducible apply run_y
                exact want_
                · intro K hK
                  refine ev_ ?_
                  refine ⟨j, _, rfl, hat, rfl, ?_⟩
                  refine ev_ ?_
                  exact hK
                refine go_ ?_
                rw [hw2]
                refine c_round ⟨_, _, _, _, ?_, ?_, ?_, ⟨j + 1, by omega, hyes (by rw [hok, n1, decide_eq_true (show 1 ≤ az by omega), decide_eq_true (show az ≤ 4096 by omega)]; rfl), rfl, rfl, rfl, rfl⟩⟩
                · omega
                · rfl
                · skip
                  exact sub_
          · have n1 : isE an = false := by simpa using n1
            have k1 : (!isE an) = true := by rw [n1]; rfl
            refine go_ ?_
            refine ev_ ?_
            exact .mk (vb_eq (by rw [hnot (by rw [hok, n1]; rfl)])) trivial
        have hj' : j = p.arrays.length := by have := of_decide_eq_false hb; rw [mapA_len'] at this; omega
        subst hj'
        have hend := hend (fun i hi => hn i hi hi)
        clear hn hb hj
        refine go_ ?_
        refine c_loop (fun k q m h => ∃ j : Nat, j ≤ p.funcs.length ∧ (∀ i (hi : i < p.funcs.length), i < j → fuOk p.funcs[i] = true) ∧ k = p.funcs.length - j ∧ q = [.top, .ptr 1 0, .top, .top, .v (.int .i64 (j : Int))] ++ List.replicate 90 .top ∧ m = 2 ∧ h = [(1, .cells (pgC p))])
          ⟨_, _, _, _, ?_, ?_, ⟨0, Nat.zero_le _, fun i hi h => by omega, rfl, rfl, rfl, rfl⟩⟩ ?_
        · rfl
        · skip
          exact sub_
        rintro k q m h hlen ⟨j, hj, hn, rfl, rfl, rfl, rfl⟩
        clear hlen
        refine go_ ?_
        first | refine run_b rfl rfl rfl (fun hb => ?_) (fun hb => ?_) | refine c_cond rfl (fun hb => ?_) (fun hb => ?_)
        · have hj' : j < p.funcs.length := by have := of_decide_eq_true hb; rw [mapF_len'] at this; omega
          have hw2 : IntKind.i64.wrap ((j : Int) + 1) = ((j + 1 : Nat) : Int) := by rw [wrap64 (by omega) (by omega)]; omega
          have hat := fuC_at hj'
          have hnot := fun h => rP_f (p := p) hj' h
          have hyes := fun h => step_at (g := fuOk) hj' hn h
          have hf := hF _ (List.getElem_mem hj')
          have hR := hT _ (List.getElem_mem hj')
          clear hend hn
          generalize p.funcs[j] = e at *
          obtain ⟨fn, fp, fl, fw, fb⟩ := e
          obtain ⟨hp1, hl1, -, -, -⟩ := hf
          have hP := s_rnames fp (show fp.length ≤ 1000000 by have : fp.length ≤ 1000 := hp1; omega)
          have hQ := s_rnames fl (show fl.length ≤ 1000000 by have : fl.length ≤ 1000 := hl1; omega)
          have hok : fuOk ⟨fn, fp, fl, fw, fb⟩ = (isE fn && (decide (fp.length ≤ 6) && (fp.all isE && (fl.all isE && fb.all fun x => rS 24 x)))) := rfl
          have hln : ((ssP fp).length : Int) = (fp.length : Int) := by rw [ssP_len]
          clear hp1 hl1
          refine go_ ?_
          with_reducible apply run_y
          exact want_
          · intro K hK
            refine ev_ ?_
            refine ⟨j, _, rfl, hat, rfl, ?_⟩
            refine ev_ ?_
            exact hK
          refine go_ ?_
          with_reducible apply run_y
          exact want_
          · intro K hK
            refine ev_ ?_
            refine vcCall_plain (s_isName fn) (by kernel_rfl) ?_
            refine ev_ ?_
            exact hK
          by_cases n1 : isE fn = true
          · have k1 : (!isE fn) = false := by rw [n1]; rfl
            by_cases z1 : fp.length ≤ 6
            · have k2 : (bif !isE fn then true else decide (((ssP fp).length : Int) > 6)) = false := by rw [k1, hln]; exact decide_eq_false (by omega)
              by_cases n2 : fp.all isE = true
              · have k3 : (bif (bif !isE fn then true else decide (((ssP fp).length : Int) > 6)) then true else !fp.all isE) = false := by rw [k2, n2]; rfl
                by_cases n3 : fl.all isE = true
                · have k4 : (bif (bif (bif !isE fn then true else decide (((ssP fp).length : Int) > 6)) then true else !fp.all isE) then true else !fl.all isE) = false := by rw [k3, n3]; rfl
                  by_cases n4 : (fb.all fun x => rS 24 x) = true
                  · have k5 : (bif (bif (bif (bif !isE fn then true else decide (((ssP fp).length : Int) > 6)) then true else !fp.all isE) then true else !fl.all isE) then true else !(fb.all fun x => rS 24 x)) = false := by rw [k4, n4]; rfl
                    refine go_ ?_
                    with_reducible apply run_y
                    exact want_
                    · intro K hK
                      refine ev_ ?_
                      refine vcCall_plain (hP) (by kernel_rfl) ?_
                      refine ev_ ?_
                      exact hK
                    refine go_ ?_
                    with_reducible apply run_y
                    exact want_
                    · intro K hK
                      refine ev_ ?_
                      refine vcCall_plain (hQ) (by kernel_rfl) ?_
                      refine ev_ ?_
                      exact hK
                    refine go_ ?_
                    with_reducible apply run_y
                    exact want_
                    · intro K hK
                      refine ev_ ?_
                      refine vcCall_plain (hR) (by kernel_rfl) ?_
                      refine ev_ ?_
                      exact hK
                    refine go_ ?_
                    rw [hw2]
                    refine c_round ⟨_, _, _, _, ?_, ?_, ?_, ⟨j + 1, by omega, hyes (by rw [hok, n1, decide_eq_true z1, n2, n3, n4]; rfl), rfl, rfl, rfl, rfl⟩⟩
                    · omega
                    · rfl
                    · skip
                      exact sub_
                  · have n4 : (fb.all fun x => rS 24 x) = false := by simpa using n4
                    have k5 : (bif (bif (bif (bif !isE fn then true else decide (((ssP fp).length : Int) > 6)) then true else !fp.all isE) then true else !fl.all isE) then true else !(fb.all fun x => rS 24 x)) = true := by rw [k4, n4]; rfl
                    refine go_ ?_
                    with_reducible apply run_y
                    exact want_
                    · intro K hK
                      refine ev_ ?_
                      refine vcCall_plain (hP) (by kernel_rfl) ?_
                      refine ev_ ?_
                      exact hK
                    refine go_ ?_
                    with_reducible apply run_y
                    exact want_
                    · intro K hK
                      refine ev_ ?_
                      refine vcCall_plain (hQ) (by kernel_rfl) ?_
                      refine ev_ ?_
                      exact hK
                    refine go_ ?_
                    with_reducible apply run_y
                    exact want_
                    · intro K hK
                      refine ev_ ?_
                      refine vcCall_plain (hR) (by kernel_rfl) ?_
                      refine ev_ ?_
                      exact hK
                    refine go_ ?_
                    refine ev_ ?_
                    exact .mk (vb_eq (by rw [hnot (by rw [hok, n1, decide_eq_true z1, n2, n3, n4]; rfl)])) trivial
                · have n3 : fl.all isE = false := by simpa using n3
                  have k4 : (bif (bif (bif !isE fn then true else decide (((ssP fp).length : Int) > 6)) then true else !fp.all isE) then true else !fl.all isE) = true := by rw [k3, n3]; rfl
                  refine go_ ?_
                  with_reducible apply run_y
                  exact want_
                  · intro K hK
                    refine ev_ ?_
                    refine vcCall_plain (hP) (by kernel_rfl) ?_
                    refine ev_ ?_
                    exact hK
                  refine go_ ?_
                  with_reducible apply run_y
                  exact want_
                  · intro K hK
                    refine ev_ ?_
                    refine vcCall_plain (hQ) (by kernel_rfl) ?_
                    refine ev_ ?_
                    exact hK
                  refine go_ ?_
                  refine ev_ ?_
                  exact .mk (vb_eq (by rw [hnot (by rw [hok, n1, decide_eq_true z1, n2, n3]; rfl)])) trivial
              · have n2 : fp.all isE = false := by simpa using n2
                have k3 : (bif (bif !isE fn then true else decide (((ssP fp).length : Int) > 6)) then true else !fp.all isE) = true := by rw [k2, n2]; rfl
                refine go_ ?_
                with_reducible apply run_y
                exact want_
                · intro K hK
                  refine ev_ ?_
                  refine vcCall_plain (hP) (by kernel_rfl) ?_
                  refine ev_ ?_
                  exact hK
                refine go_ ?_
                refine ev_ ?_
                exact .mk (vb_eq (by rw [hnot (by rw [hok, n1, decide_eq_true z1, n2]; rfl)])) trivial
            · have k2 : (bif !isE fn then true else decide (((ssP fp).length : Int) > 6)) = true := by rw [k1, hln]; exact decide_eq_true (by omega)
              refine go_ ?_
              refine ev_ ?_
              exact .mk (vb_eq (by rw [hnot (by rw [hok, n1, decide_eq_false z1]; rfl)])) trivial
          · have n1 : isE fn = false := by simpa using n1
            have k1 : (!isE fn) = true := by rw [n1]; rfl
            refine go_ ?_
            refine ev_ ?_
            exact .mk (vb_eq (by rw [hnot (by rw [hok, n1]; rfl)])) trivial
        have hj' : j = p.funcs.length := by have := of_decide_eq_false hb; rw [mapF_len'] at this; omega
        subst hj'
        refine go_ ?_
        refine ev_ ?_
        exact .mk (vb_eq (by rw [hend (fun i hi => hn i hi hi)])) trivial
      · have hr : rP p = false := by unfold rP; rw [decide_eq_false f2]; simp
        have g3 : (bif (bif !p.vars.all isE then true else decide (((p.funcs.map fuC).length : Int) < 1)) then true else decide (((p.funcs.map fuC).length : Int) > 64)) = true := by rw [g2]; exact decide_eq_true (by omega)
        refine go_ ?_
        refine ev_ ?_
        exact .mk (vb_eq (by rw [hr])) trivial
    · have hr : rP p = false := by unfold rP; rw [decide_eq_false f1]; simp
      have g2 : (bif !p.vars.all isE then true else decide (((p.funcs.map fuC).length : Int) < 1)) = true := by rw [g1]; exact decide_eq_true (by omega)
      refine go_ ?_
      refine ev_ ?_
      exact .mk (vb_eq (by rw [hr])) trivial
  · have v1 : p.vars.all isE = false := by simpa using v1
    have hr : rP p = false := by unfold rP; rw [v1]; rfl
    have g1 : (!p.vars.all isE) = true := by rw [v1]; rfl
    refine go_ ?_
    refine ev_ ?_
    exact .mk (vb_eq (by rw [hr])) trivial
end Go.Proofs.YtddggjmfplohkaaDoor
