import Derived.Test.YtddggjmfplohkaaDoorQf
/- Which programs may be, walked: a program. -/
namespace Go.Proofs.YtddggjmfplohkaaDoor
open Go.RowKit
set_option linter.unnecessarySimpa false
/-- All lists of a program are short. -/
structure BdP (p : Pg) : Prop where
  v : p.vars.length ≤ 1000000
  a : p.arrays.length ≤ 1000000
  f : p.funcs.length ≤ 1000000
  fs : ∀ f ∈ p.funcs, f.params.length ≤ 1000000 ∧ f.locals.length ≤ 1000000 ∧ f.body.length ≤ 1000000 ∧ ∀ x ∈ f.body, bdS 24 x
theorem mapC_at {α : Type} {g : α → List PV} {l : List α} {j : Nat} (h : j < l.length) : (l.map g)[j]? = some (g l[j]) := by simp [h]
set_option maxHeartbeats 16000000 in
set_option maxRecDepth 100000 in
theorem s_xright (p : Pg) (hp : BdP p) : Spec (Ctx.mk Tryd.prog globU 7 LaidU) 10 [.agg (pgC p)] [] (.v (.bool (rP p))) [] := by
  obtain ⟨vs, ars, fs⟩ := p
  obtain ⟨hv, ha, hf, hfs⟩ := hp
  simp only at hv ha hf hfs
  have hlf : (((fs.map fuC).length : Nat) : Int) = (fs.length : Int) := by rw [List.length_map]
  have hla : (((ars.map arC).length : Nat) : Int) = (ars.length : Int) := by rw [List.length_map]
  have hs := s_allStand vs hv
  have hrp : rP ⟨vs, ars, fs⟩ = (vs.all isE && (decide (1 ≤ fs.length) && (decide (fs.length ≤ 64) && (ars.all arOk && fs.all fuOk)))) := rfl
  rw [hrp]
  clear hrp
  generalize vs.all isE = bv at *
  by_cases h1 : 1 ≤ fs.length
  rotate_left
  · have c1 : decide (((fs.map fuC).length : Int) < 1) = true := decide_eq_true (by omega)
    have d1 : (bif decide (((fs.map fuC).length : Int) < 1) then true else false) = true := by rw [c1]; rfl
    have d2 : (bif (bif decide (((fs.map fuC).length : Int) < 1) then true else false) then true else false) = true := by rw [d1]; rfl
    refine spec_of_bodyL CX_mixed CU_gpk Tryd.func10 rfl 79 0 rfl rfl rfl rfl ?_
    refine go_ ?_
    refine ev_ ?_
    exact .mk (vb_eq (by (rw [decide_eq_false h1]; simp))) trivial
  have c1 : decide (((fs.map fuC).length : Int) < 1) = false := decide_eq_false (by omega)
  by_cases h2 : fs.length ≤ 64
  rotate_left
  · have c2 : decide (((fs.map fuC).length : Int) > 64) = true := decide_eq_true (by omega)
    have d1 : (bif decide (((fs.map fuC).length : Int) < 1) then true else decide (((fs.map fuC).length : Int) > 64)) = true := by rw [c1, c2]; rfl
    have d2 : (bif (bif decide (((fs.map fuC).length : Int) < 1) then true else decide (((fs.map fuC).length : Int) > 64)) then true else false) = true := by rw [d1]; rfl
    refine spec_of_bodyL CX_mixed CU_gpk Tryd.func10 rfl 79 0 rfl rfl rfl rfl ?_
    refine go_ ?_
    refine ev_ ?_
    exact .mk (vb_eq (by (rw [decide_eq_false h2]; simp))) trivial
  have c2 : decide (((fs.map fuC).length : Int) > 64) = false := decide_eq_false (by omega)
  have d1 : (bif decide (((fs.map fuC).length : Int) < 1) then true else decide (((fs.map fuC).length : Int) > 64)) = false := by rw [c1, c2]; rfl
  by_cases h3 : bv = true
  rotate_left
  · have h3 : bv = false := by simpa using h3
    have d2 : (bif (bif decide (((fs.map fuC).length : Int) < 1) then true else decide (((fs.map fuC).length : Int) > 64)) then true else !bv) = true := by rw [d1, h3]; rfl
    refine spec_of_bodyL CX_mixed CU_gpk Tryd.func10 rfl 79 0 rfl rfl rfl rfl ?_
    refine go_ ?_
    with_reducible apply run_y
    exact want_
    · intro K hK
      refine ev_ ?_
      refine vcCall_plain (hs) (by kernel_rfl) ?_
      refine ev_ ?_
      exact hK
    refine go_ ?_
    refine ev_ ?_
    exact .mk (vb_eq (by (rw [h3]; rfl))) trivial
  have d2 : (bif (bif decide (((fs.map fuC).length : Int) < 1) then true else decide (((fs.map fuC).length : Int) > 64)) then true else !bv) = false := by rw [d1, h3]; rfl
  rw [h3, decide_eq_true h1, decide_eq_true h2]
  simp only [Bool.true_and]
  refine spec_of_bodyL CX_mixed CU_gpk Tryd.func10 rfl 79 0 rfl rfl rfl rfl ?_
  refine go_ ?_
  with_reducible apply run_y
  exact want_
  · intro K hK
    refine ev_ ?_
    refine vcCall_plain (hs) (by kernel_rfl) ?_
    refine ev_ ?_
    exact hK
  refine go_ ?_
  clear hs
  refine c_loop (fun k q m h => ∃ j : Nat, j ≤ ars.length ∧ (∀ i (hi : i < ars.length), i < j → arOk ars[i] = true) ∧ k = ars.length - j ∧ q = [.top, .ptr 1 0] ++ List.replicate 22 .top ++ [.sl .any (ars.map arC), .v (.int .i64 ((ars.map arC).length : Int)), .v (.int .i64 (j : Int))] ++ List.replicate 52 .top ∧ m = 2 ∧ h = [(1, .cells (pgC ⟨vs, ars, fs⟩))])
    ⟨_, _, _, _, ?_, ?_, ⟨0, Nat.zero_le _, fun i _ hi => by omega, rfl, rfl, rfl, rfl⟩⟩ ?_
  · rfl
  · skip
    exact sub_
  rintro k q m h hlen ⟨j, hj, hn, rfl, rfl, rfl, rfl⟩
  clear hlen d2 d1 c1 c2
  by_cases hj' : j < ars.length
  · have g0 : decide ((j : Int) < ((ars.map arC).length : Int)) = true := decide_eq_true (by omega)
    have hw2 : IntKind.i64.wrap ((j : Int) + 1) = ((j + 1 : Nat) : Int) := by rw [wrap64 (by omega) (by omega)]; omega
    have hat := mapC_at (g := arC) hj'
    have hno : arOk ars[j] = false → ars.all arOk = false := fun h => allX_no hj' h
    have hyes : arOk ars[j] = true → ∀ i (hi : i < ars.length), i < j + 1 → arOk ars[i] = true := fun h i hi hi2 => by
      by_cases e : i = j
      · subst e; exact h
      · exact hn i hi (by omega)
    generalize ars[j] = x at *
    obtain ⟨an, az⟩ := x
    have hok : arOk ⟨an, az⟩ = (isE an && (decide (1 ≤ az) && decide (az ≤ 4096))) := rfl
    rw [hok] at hno hyes
    have hm := s_mayStand an
    generalize isE an = b1 at *
    by_cases e1 : b1 = true
    rotate_left
    · have e1 : b1 = false := by simpa using e1
      have n1 : (!b1) = true := by rw [e1]; rfl
      have n2 : (bif !b1 then true else false) = true := by rw [e1]; rfl
      have n3 : (bif (bif !b1 then true else false) then true else false) = true := by rw [n2]; rfl
      refine go_ ?_
      with_reducible apply run_y
      exact want_
      · intro K hK
        refine ev_ ?_
        refine ⟨j, _, rfl, hat, rfl, ?_⟩
        refine ev_ ?_
        exact hK
      refine go_ ?_
      with_reducible apply run_y
      exact want_
      · intro K hK
        refine ev_ ?_
        refine vcCall_plain (hm) (by kernel_rfl) ?_
        refine ev_ ?_
        exact hK
      refine go_ ?_
      refine ev_ ?_
      exact .mk (vb_eq (by (rw [hno (by rw [e1]; rfl)]; rfl))) trivial
    have n1 : (!b1) = false := by rw [e1]; rfl
    by_cases e2 : 1 ≤ az
    rotate_left
    · have m1 : decide (az < 1) = true := decide_eq_true (by omega)
      have n2 : (bif !b1 then true else decide (az < 1)) = true := by rw [n1, m1]; rfl
      have n3 : (bif (bif !b1 then true else decide (az < 1)) then true else false) = true := by rw [n2]; rfl
      refine go_ ?_
      with_reducible apply run_y
      exact want_
      · intro K hK
        refine ev_ ?_
        refine ⟨j, _, rfl, hat, rfl, ?_⟩
        refine ev_ ?_
        exact hK
      refine go_ ?_
      with_reducible apply run_y
      exact want_
      · intro K hK
        refine ev_ ?_
        refine vcCall_plain (hm) (by kernel_rfl) ?_
        refine ev_ ?_
        exact hK
      refine go_ ?_
      refine ev_ ?_
      exact .mk (vb_eq (by (rw [hno (by rw [decide_eq_false e2]; simp)]; rfl))) trivial
    have m1 : decide (az < 1) = false := decide_eq_false (by omega)
    have n2 : (bif !b1 then true else decide (az < 1)) = false := by rw [n1, m1]; rfl
    by_cases e3 : az ≤ 4096
    rotate_left
    · have m2 : decide (az > 4096) = true := decide_eq_true (by omega)
      have n3 : (bif (bif !b1 then true else decide (az < 1)) then true else decide (az > 4096)) = true := by rw [n2, m2]; rfl
      refine go_ ?_
      with_reducible apply run_y
      exact want_
      · intro K hK
        refine ev_ ?_
        refine ⟨j, _, rfl, hat, rfl, ?_⟩
        refine ev_ ?_
        exact hK
      refine go_ ?_
      with_reducible apply run_y
      exact want_
      · intro K hK
        refine ev_ ?_
        refine vcCall_plain (hm) (by kernel_rfl) ?_
        refine ev_ ?_
        exact hK
      refine go_ ?_
      refine ev_ ?_
      exact .mk (vb_eq (by (rw [hno (by rw [decide_eq_false e3]; simp)]; rfl))) trivial
    have m2 : decide (az > 4096) = false := decide_eq_false (by omega)
    have n3 : (bif (bif !b1 then true else decide (az < 1)) then true else decide (az > 4096)) = false := by rw [n2, m2]; rfl
    refine go_ ?_
    with_reducible apply run_y
    exact want_
    · intro K hK
      refine ev_ ?_
      refine ⟨j, _, rfl, hat, rfl, ?_⟩
      refine ev_ ?_
      exact hK
    refine go_ ?_
    with_reducible apply run_y
    exact want_
    · intro K hK
      refine ev_ ?_
      refine vcCall_plain (hm) (by kernel_rfl) ?_
      refine ev_ ?_
      exact hK
    refine go_ ?_
    rw [hw2]
    refine c_round ⟨_, _, _, _, ?_, ?_, ?_, ⟨j + 1, by omega, hyes (by rw [e1, decide_eq_true e2, decide_eq_true e3]; rfl), rfl, rfl, rfl, rfl⟩⟩
    · omega
    · rfl
    · skip
      exact sub_
  have g0 : decide ((j : Int) < ((ars.map arC).length : Int)) = false := decide_eq_false (by omega)
  rw [allX_yes fun i hi => hn i hi (by omega)]
  simp only [Bool.true_and]
  clear hn
  refine go_ ?_
  refine c_loop (fun k q m h => ∃ j : Nat, j ≤ fs.length ∧ (∀ i (hi : i < fs.length), i < j → fuOk fs[i] = true) ∧ k = fs.length - j ∧ q = [.top, .ptr 1 0] ++ List.replicate 44 .top ++ [.sl .any (fs.map fuC), .v (.int .i64 ((fs.map fuC).length : Int)), .v (.int .i64 (j : Int))] ++ List.replicate 30 .top ∧ m = 2 ∧ h = [(1, .cells (pgC ⟨vs, ars, fs⟩))])
    ⟨_, _, _, _, ?_, ?_, ⟨0, Nat.zero_le _, fun i _ hi => by omega, rfl, rfl, rfl, rfl⟩⟩ ?_
  · rfl
  · skip
    exact sub_
  clear g0 hj' hj
  clear j
  rintro k q m h hlen ⟨j, hj, hn, rfl, rfl, rfl, rfl⟩
  clear hlen
  by_cases hj' : j < fs.length
  · have g0 : decide ((j : Int) < ((fs.map fuC).length : Int)) = true := decide_eq_true (by omega)
    have hw2 : IntKind.i64.wrap ((j : Int) + 1) = ((j + 1 : Nat) : Int) := by rw [wrap64 (by omega) (by omega)]; omega
    have hat := mapC_at (g := fuC) hj'
    have hno : fuOk fs[j] = false → fs.all fuOk = false := fun h => allX_no hj' h
    have hyes : fuOk fs[j] = true → ∀ i (hi : i < fs.length), i < j + 1 → fuOk fs[i] = true := fun h i hi hi2 => by
      by_cases e : i = j
      · subst e; exact h
      · exact hn i hi (by omega)
    have hb := hfs fs[j] (List.getElem_mem hj')
    generalize fs[j] = x at *
    obtain ⟨fn, fp, fl, fw, fb⟩ := x
    obtain ⟨hb1, hb2, hb3, hb4⟩ := hb
    simp only at hb1 hb2 hb3 hb4
    have hok : fuOk ⟨fn, fp, fl, fw, fb⟩ = (isE fn && (decide (fp.length ≤ 6) && (fp.all isE && (fl.all isE && fb.all fun x => rS 24 x)))) := rfl
    rw [hok] at hno hyes
    have hm := s_mayStand fn
    have hlp : (((ssP fp).length : Nat) : Int) = (fp.length : Int) := by rw [ssP_len]
    have q1 := s_allStand fp hb1
    have q2 := s_allStand fl hb2
    have q3 := s_rightStmts 24 (by omega) 1 (by omega) fb hb3 hb4
    clear hfs hb4
    generalize isE fn = b1 at *
    generalize fp.all isE = b2 at *
    generalize fl.all isE = b3 at *
    generalize (fb.all fun x => rS 24 x) = b4 at *
    by_cases e1 : b1 = true
    rotate_left
    · have e1 : b1 = false := by simpa using e1
      have n1 : (!b1) = true := by rw [e1]; rfl
      have n2 : (bif !b1 then true else false) = true := by rw [e1]; rfl
      refine go_ ?_
      with_reducible apply run_y
      exact want_
      · intro K hK
        refine ev_ ?_
        refine ⟨j, _, rfl, hat, rfl, ?_⟩
        refine ev_ ?_
        exact hK
      refine go_ ?_
      with_reducible apply run_y
      exact want_
      · intro K hK
        refine ev_ ?_
        refine vcCall_plain (hm) (by kernel_rfl) ?_
        refine ev_ ?_
        exact hK
      refine go_ ?_
      refine ev_ ?_
      exact .mk (vb_eq (by rw [hno (by rw [e1]; rfl)])) trivial
    have n1 : (!b1) = false := by rw [e1]; rfl
    by_cases e2 : fp.length ≤ 6
    rotate_left
    · have m1 : decide (((ssP fp).length : Int) > 6) = true := decide_eq_true (by omega)
      have n2 : (bif !b1 then true else decide (((ssP fp).length : Int) > 6)) = true := by rw [n1, m1]; rfl
      refine go_ ?_
      with_reducible apply run_y
      exact want_
      · intro K hK
        refine ev_ ?_
        refine ⟨j, _, rfl, hat, rfl, ?_⟩
        refine ev_ ?_
        exact hK
      refine go_ ?_
      with_reducible apply run_y
      exact want_
      · intro K hK
        refine ev_ ?_
        refine vcCall_plain (hm) (by kernel_rfl) ?_
        refine ev_ ?_
        exact hK
      refine go_ ?_
      refine ev_ ?_
      exact .mk (vb_eq (by rw [hno (by rw [decide_eq_false e2]; simp)])) trivial
    have m1 : decide (((ssP fp).length : Int) > 6) = false := decide_eq_false (by omega)
    have n2 : (bif !b1 then true else decide (((ssP fp).length : Int) > 6)) = false := by rw [n1, m1]; rfl
    by_cases e3 : b2 = true
    rotate_left
    · have e3 : b2 = false := by simpa using e3
      have r1 : (!b2) = true := by rw [e3]; rfl
      have r2 : (bif !b2 then true else false) = true := by rw [e3]; rfl
      have r3 : (bif (bif !b2 then true else false) then true else false) = true := by rw [r2]; rfl
      refine go_ ?_
      with_reducible apply run_y
      exact want_
      · intro K hK
        refine ev_ ?_
        refine ⟨j, _, rfl, hat, rfl, ?_⟩
        refine ev_ ?_
        exact hK
      refine go_ ?_
      with_reducible apply run_y
      exact want_
      · intro K hK
        refine ev_ ?_
        refine vcCall_plain (hm) (by kernel_rfl) ?_
        refine ev_ ?_
        exact hK
      refine go_ ?_
      with_reducible apply run_y
      exact want_
      · intro K hK
        refine ev_ ?_
        refine vcCall_plain (q1) (by kernel_rfl) ?_
        refine ev_ ?_
        exact hK
      refine go_ ?_
      refine ev_ ?_
      exact .mk (vb_eq (by rw [hno (by rw [e3]; simp)])) trivial
    have r1 : (!b2) = false := by rw [e3]; rfl
    by_cases e4 : b3 = true
    rotate_left
    · have e4 : b3 = false := by simpa using e4
      have r2 : (bif !b2 then true else !b3) = true := by rw [e3, e4]; rfl
      have r3 : (bif (bif !b2 then true else !b3) then true else false) = true := by rw [r2]; rfl
      refine go_ ?_
      with_reducible apply run_y
      exact want_
      · intro K hK
        refine ev_ ?_
        refine ⟨j, _, rfl, hat, rfl, ?_⟩
        refine ev_ ?_
        exact hK
      refine go_ ?_
      with_reducible apply run_y
      exact want_
      · intro K hK
        refine ev_ ?_
        refine vcCall_plain (hm) (by kernel_rfl) ?_
        refine ev_ ?_
        exact hK
      refine go_ ?_
      with_reducible apply run_y
      exact want_
      · intro K hK
        refine ev_ ?_
        refine vcCall_plain (q1) (by kernel_rfl) ?_
        refine ev_ ?_
        exact hK
      refine go_ ?_
      with_reducible apply run_y
      exact want_
      · intro K hK
        refine ev_ ?_
        refine vcCall_plain (q2) (by kernel_rfl) ?_
        refine ev_ ?_
        exact hK
      refine go_ ?_
      refine ev_ ?_
      exact .mk (vb_eq (by rw [hno (by rw [e4]; simp)])) trivial
    have r2 : (bif !b2 then true else !b3) = false := by rw [e3, e4]; rfl
    by_cases e5 : b4 = true
    rotate_left
    · have e5 : b4 = false := by simpa using e5
      have r3 : (bif (bif !b2 then true else !b3) then true else !b4) = true := by rw [r2, e5]; rfl
      refine go_ ?_
      with_reducible apply run_y
      exact want_
      · intro K hK
        refine ev_ ?_
        refine ⟨j, _, rfl, hat, rfl, ?_⟩
        refine ev_ ?_
        exact hK
      refine go_ ?_
      with_reducible apply run_y
      exact want_
      · intro K hK
        refine ev_ ?_
        refine vcCall_plain (hm) (by kernel_rfl) ?_
        refine ev_ ?_
        exact hK
      refine go_ ?_
      with_reducible apply run_y
      exact want_
      · intro K hK
        refine ev_ ?_
        refine vcCall_plain (q1) (by kernel_rfl) ?_
        refine ev_ ?_
        exact hK
      refine go_ ?_
      with_reducible apply run_y
      exact want_
      · intro K hK
        refine ev_ ?_
        refine vcCall_plain (q2) (by kernel_rfl) ?_
        refine ev_ ?_
        exact hK
      refine go_ ?_
      with_reducible apply run_y
      exact want_
      · intro K hK
        refine ev_ ?_
        refine vcCall_plain (q3) (by kernel_rfl) ?_
        refine ev_ ?_
        exact hK
      refine go_ ?_
      refine ev_ ?_
      exact .mk (vb_eq (by rw [hno (by rw [e5]; simp)])) trivial
    have r3 : (bif (bif !b2 then true else !b3) then true else !b4) = false := by rw [r2, e5]; rfl
    refine go_ ?_
    with_reducible apply run_y
    exact want_
    · intro K hK
      refine ev_ ?_
      refine ⟨j, _, rfl, hat, rfl, ?_⟩
      refine ev_ ?_
      exact hK
    refine go_ ?_
    with_reducible apply run_y
    exact want_
    · intro K hK
      refine ev_ ?_
      refine vcCall_plain (hm) (by kernel_rfl) ?_
      refine ev_ ?_
      exact hK
    refine go_ ?_
    with_reducible apply run_y
    exact want_
    · intro K hK
      refine ev_ ?_
      refine vcCall_plain (q1) (by kernel_rfl) ?_
      refine ev_ ?_
      exact hK
    refine go_ ?_
    with_reducible apply run_y
    exact want_
    · intro K hK
      refine ev_ ?_
      refine vcCall_plain (q2) (by kernel_rfl) ?_
      refine ev_ ?_
      exact hK
    refine go_ ?_
    with_reducible apply run_y
    exact want_
    · intro K hK
      refine ev_ ?_
      refine vcCall_plain (q3) (by kernel_rfl) ?_
      refine ev_ ?_
      exact hK
    refine go_ ?_
    rw [hw2]
    refine c_round ⟨_, _, _, _, ?_, ?_, ?_, ⟨j + 1, by omega, hyes (by rw [e1, decide_eq_true e2, e3, e4, e5]; rfl), rfl, rfl, rfl, rfl⟩⟩
    · omega
    · rfl
    · skip
      exact sub_
  have g0 : decide ((j : Int) < ((fs.map fuC).length : Int)) = false := decide_eq_false (by omega)
  refine go_ ?_
  refine ev_ ?_
  exact .mk (vb_eq (by rw [allX_yes fun i hi => hn i hi (by omega)])) trivial
end Go.Proofs.YtddggjmfplohkaaDoor
