import Derived.Test.YthmepecedjamcaaDoorJouG
import Derived.Test.YthmepecedjamcaaDoorOpnZ
/- Laws of journals: what is put, and what is read. -/
namespace Go.Proofs.YthmepecedjamcaaDoor
open Go.RowKit
set_option linter.unnecessarySimpa false
theorem read_nil (n : Nat) : readE n [] = ([], 0) := readE_none (by unfold firstE; simp)
theorem read_whole {l : List (List UInt8)} (h : okL l) (hl : l.length ≤ 1000) : readE 1000 (putB l) = (l, (putB l).length) := by
  have := read_put (n := 1000) [] h hl
  rw [List.append_nil, read_nil] at this
  simpa using this
theorem okL_of {l : List (List UInt8)} (h : (putB l).length ≤ 900000) : okL l := fun r hr => by
  have := putB_mem hr; omega
theorem awake_len : (putB [[], [97, 98]]).length = 42 := by
  rw [putB_cons, putB_cons, putB_nil, List.length_append, recB_len, List.length_append, recB_len]; rfl
theorem awake_cut : readE 1000 ((putB [[], [97, 98]]).take 41) = ([[]], 20) := by
  rw [read_cut _ 41 1000 (okL_of (by rw [awake_len]; omega)) (by decide) (by rw [awake_len]; omega)]
  rfl
set_option maxRecDepth 100000 in
set_option maxHeartbeats 2000000 in
theorem s_awake41 : Spec (Ctx.mk Tryd.prog globX (0 + 1) Places) 22 [] [] (.v (.bool true)) [] := by
  have hp := awake_len
  have hc := awake_cut
  have hr := read_whole (l := [[], [97, 98]]) (okL_of (by rw [awake_len]; omega)) (by decide)
  have sp := s_put [[], [97, 98]] (by decide) (by rw [awake_len]; omega)
  have s1 := s_read (putB [[], [97, 98]]) (by rw [hp]; omega)
  have s2 := s_read ((putB [[], [97, 98]]).take 41) (by rw [List.length_take]; omega)
  rw [hr] at s1
  rw [hc] at s2
  rw [hp] at s1
  generalize putB [[], [97, 98]] = p at *
  have hsz : (bs p).size = 42 := by rw [bs_size]; exact hp
  have hx : (bs p).extract 0 41 = bs (p.take 41) := by rw [bs_extract]; rfl
  have g1 : (((bs p).size : Int) != 42) = false := by rw [hsz]; rfl
  have j1 := s_jlist [[], [97, 98]] [[], [97, 98]] (by decide)
  have j2 := s_jlist [[]] [[]] (by decide)
  rw [decide_eq_true rfl] at j1 j2
  refine spec_of_bodyL CX_mixed CX_gpk Tryd.func22 rfl 57 0 rfl rfl rfl rfl ?_
  refine go_ ?_
  with_reducible apply run_y
  exact want_
  · intro K hK
    refine ev_ ?_
    refine vcCall_plain (sp) (by kernel_rfl) ?_
    refine ev_ ?_
    exact hK
  refine go_ ?_
  with_reducible apply run_y
  exact want_
  · intro K hK
    refine ev_ ?_
    refine vcCall_plain (s1) (by kernel_rfl) ?_
    refine ev_ ?_
    exact hK
  refine go_ ?_
  with_reducible apply run_y
  exact want_
  · intro K hK
    refine ev_ ?_
    refine ⟨0, 41, bs (p.take 41), rfl, rfl, Nat.zero_le _, by rw [hsz]; omega, Tryd.underlying9, hx, ?_⟩
    refine ev_ ?_
    exact hK
  refine go_ ?_
  with_reducible apply run_y
  exact want_
  · intro K hK
    refine ev_ ?_
    refine vcCall_plain (s2) (by kernel_rfl) ?_
    refine ev_ ?_
    exact hK
  refine go_ ?_
  with_reducible apply run_y
  exact want_
  · intro K hK
    refine ev_ ?_
    refine ⟨1001, 1001, rfl, rfl, Nat.le_refl _, by decide, by decide, by decide, rfl, rfl, ?_⟩
    refine ev_ ?_
    exact hK
  refine go_ ?_
  with_reducible apply run_y
  exact want_
  · intro K hK
    refine ev_ ?_
    refine vcCall_plain (s_put_no (List.replicate 1001 ByteArray.empty) (by rw [List.length_replicate]; omega)) (by kernel_rfl) ?_
    refine ev_ ?_
    exact hK
  refine go_ ?_
  with_reducible apply run_y
  exact want_
  · intro K hK
    refine ev_ ?_
    refine vcCall_plain (j1) (by kernel_rfl) ?_
    refine ev_ ?_
    exact hK
  refine go_ ?_
  with_reducible apply run_y
  exact want_
  · intro K hK
    refine ev_ ?_
    refine vcCall_plain (j2) (by kernel_rfl) ?_
    refine ev_ ?_
    exact hK
  refine go_ ?_
  refine ev_ ?_
  exact .mk (by rfl) trivial
set_option maxRecDepth 100000 in
set_option maxHeartbeats 2000000 in
theorem s_journalReads (l : List UInt8) : Spec (Ctx.mk Tryd.prog globX (0 + 1) Places) 5 [.v (.string (bs l))] [] (.v (.bool true)) [] := by
  refine spec_of_bodyL CX_mixed CX_gpk Tryd.func5 rfl 30 0 rfl rfl rfl rfl ?_
  refine go_ ?_
  with_reducible apply run_y
  exact want_
  · intro K hK
    refine ev_ ?_
    refine vcCall_plain (s_awake41) (by kernel_rfl) ?_
    refine ev_ ?_
    exact hK
  refine go_ ?_
  cases g0 : decide ((((bs l).size : Nat) : Int) > 3000)
  case true =>
    refine go_ ?_
    refine ev_ ?_
    exact .mk (by rfl) trivial
  case false =>
    have hl : l.length ≤ 3000 := by have := of_decide_eq_false g0; rw [bs_size] at this; omega
    have s1 := s_read l (by omega)
    have s2 := s_rread l (by omega)
    have hb := (put_read 1000 l).2.1
    generalize readE 1000 l = k at *
    have j1 := s_jlist k.1 k.1 (by omega)
    rw [decide_eq_true rfl] at j1
    refine go_ ?_
    with_reducible apply run_y
    exact want_
    · intro K hK
      refine ev_ ?_
      refine vcCall_plain (s1) (by kernel_rfl) ?_
      refine ev_ ?_
      exact hK
    refine go_ ?_
    with_reducible apply run_y
    exact want_
    · intro K hK
      refine ev_ ?_
      refine vcCall_plain (s2) (by kernel_rfl) ?_
      refine ev_ ?_
      exact hK
    refine go_ ?_
    with_reducible apply run_y
    exact want_
    · intro K hK
      refine ev_ ?_
      refine vcCall_plain (j1) (by kernel_rfl) ?_
      refine ev_ ?_
      exact hK
    refine go_ ?_
    refine ev_ ?_
    exact .mk (vb_eq (by simp)) trivial
set_option maxRecDepth 100000 in
set_option maxHeartbeats 2000000 in
theorem s_journalPuts (l : List (List UInt8)) (hlen : l.length ≤ maxLen) (hs : ∀ r ∈ l, r.length ≤ 9223372036000000000) : Spec (Ctx.mk Tryd.prog globX (0 + 1) Places) 4 [.sl .any (ssP (bsL l))] [] (.v (.bool true)) [] := by
  have st := s_total l 3000 (by omega) hlen hs
  refine spec_of_bodyL CX_mixed CX_gpk Tryd.func4 rfl 55 0 rfl rfl rfl rfl ?_
  refine go_ ?_
  with_reducible apply run_y
  exact want_
  · intro K hK
    refine ev_ ?_
    refine vcCall_plain (s_awake41) (by kernel_rfl) ?_
    refine ev_ ?_
    exact hK
  refine go_ ?_
  cases g0 : decide (((ssP (bsL l)).length : Int) ≤ 1000)
  case false =>
    have hl : ¬ (bsL l).length ≤ 1000 := by have := of_decide_eq_false g0; rw [ssP_len] at this; omega
    refine go_ ?_
    with_reducible apply run_y
    exact want_
    · intro K hK
      refine ev_ ?_
      refine vcCall_plain (s_put_no (bsL l) hl) (by kernel_rfl) ?_
      refine ev_ ?_
      exact hK
    refine go_ ?_
    with_reducible apply run_y
    exact want_
    · intro K hK
      refine ev_ ?_
      refine vcCall_plain (s_rput_no (bsL l) hl) (by kernel_rfl) ?_
      refine ev_ ?_
      exact hK
    refine go_ ?_
    with_reducible apply run_y
    exact want_
    · intro K hK
      refine ev_ ?_
      refine vcCall_plain (s_read [] (by decide)) (by kernel_rfl) ?_
      refine ev_ ?_
      exact hK
    refine go_ ?_
    refine ev_ ?_
    exact .mk (vb_eq (by simp)) trivial
  case true =>
    have hl : l.length ≤ 1000 := by have := of_decide_eq_true g0; rw [ssP_len, bsL_len] at this; omega
    refine go_ ?_
    with_reducible apply run_y
    exact want_
    · intro K hK
      refine ev_ ?_
      refine vcCall_plain (st) (by kernel_rfl) ?_
      refine ev_ ?_
      exact hK
    refine go_ ?_
    cases g1 : decide (((totalE 3000 l 0 : Nat) : Int) > 3000)
    case true =>
      refine go_ ?_
      refine ev_ ?_
      exact .mk (by rfl) trivial
    case false =>
      have h3 : totalE 3000 l 0 ≤ 3000 := by have := of_decide_eq_false g1; omega
      have hp := totalE_le h3
      rw [hp] at h3
      have ok := okL_of (l := l) (by omega)
      have s1 := s_read (putB l) (by omega)
      rw [read_whole ok hl] at s1
      have j1 := s_jlist l l (by omega)
      rw [decide_eq_true rfl] at j1
      have p1 := s_put l hl (by omega)
      have p2 := s_rput l hl (by omega)
      have hsz := bs_size (putB l)
      generalize putB l = p at *
      refine go_ ?_
      with_reducible apply run_y
      exact want_
      · intro K hK
        refine ev_ ?_
        refine vcCall_plain (p1) (by kernel_rfl) ?_
        refine ev_ ?_
        exact hK
      refine go_ ?_
      with_reducible apply run_y
      exact want_
      · intro K hK
        refine ev_ ?_
        refine vcCall_plain (p2) (by kernel_rfl) ?_
        refine ev_ ?_
        exact hK
      refine go_ ?_
      with_reducible apply run_y
      exact want_
      · intro K hK
        refine ev_ ?_
        refine vcCall_plain (s1) (by kernel_rfl) ?_
        refine ev_ ?_
        exact hK
      refine go_ ?_
      with_reducible apply run_y
      exact want_
      · intro K hK
        refine ev_ ?_
        refine vcCall_plain (j1) (by kernel_rfl) ?_
        refine ev_ ?_
        exact hK
      refine go_ ?_
      refine ev_ ?_
      exact .mk (vb_eq (by simp [hsz])) trivial
theorem open_bsL {q : PV} (i : IsV (.sl .str) q) (z : SzV q) : ∃ l : List (List UInt8), q = .sl .any (ssP (bsL l)) ∧ l.length ≤ 140737488355328 ∧ ∀ r ∈ l, r.length ≤ 140737488355328 := by
  obtain ⟨es, -, he, rfl⟩ := i
  obtain ⟨l, rfl, -⟩ := is_ss he
  obtain ⟨h1, h2⟩ := z l rfl
  have hb : reachBytes < 140737488355328 := by decide
  refine ⟨l.map fun s => s.data.toList, by rw [bsL_data], by rw [List.length_map]; omega, fun r hr => ?_⟩
  obtain ⟨s, hs, rfl⟩ := List.mem_map.1 hr
  have := h2 s hs
  rw [Array.length_toList]
  exact Nat.le_of_lt (Nat.lt_of_le_of_lt this hb)
theorem open_bs {q : PV} (i : IsV .str q) : ∃ l : List UInt8, q = .v (.string (bs l)) := by
  obtain ⟨s, -, rfl⟩ := i
  exact ⟨s.data.toList, rfl⟩
theorem open_int {k : IntKind} {p : PV} (h : IsV (.int k) p) : ∃ n, (Lit.int k n).wf = true ∧ p = .v (.int k n) := h
theorem short_le {l : List (List UInt8)} (h : ∀ r ∈ l, r.length ≤ 140737488355328) : ∀ r ∈ l, r.length ≤ 9223372036000000000 := fun r hr => by have := h r hr; omega
theorem journalReads_walk (q0 : PV) (v0 : Value) (w : World) (hP : Places w) (i0 : IsV .str q0) (r0 : Rep (allOf w) q0 v0) : Calls Tryd.prog 5 #[v0] w fun e w' => e = .returned (.bool true) ∧ Grow w w' := by
  obtain ⟨l, rfl⟩ := open_bs i0
  exact walk_of (s_journalReads l) hP (args1 r0)
theorem journalPuts_walk (q0 : PV) (v0 : Value) (w : World) (hP : Places w) (i0 : IsV (.sl .str) q0) (r0 : Rep (allOf w) q0 v0) (z0 : SzV q0) : Calls Tryd.prog 4 #[v0] w fun e w' => e = .returned (.bool true) ∧ Grow w w' := by
  obtain ⟨l, rfl, h1, h2⟩ := open_bsL i0 z0
  exact walk_of (s_journalPuts l (by simp only [maxLen]; omega) (short_le h2)) hP (args1 r0)
end Go.Proofs.YthmepecedjamcaaDoor
