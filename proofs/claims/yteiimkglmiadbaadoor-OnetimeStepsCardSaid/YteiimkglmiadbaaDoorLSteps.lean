/- The walk of the law OnetimeSteps: it answers true. -/
import Derived.Test.YteiimkglmiadbaaDoorAwake
import Derived.Test.YteiimkglmiadbaaDoorInts
namespace Go.Proofs.YteiimkglmiadbaaDoor
open Go.RowKit
structure LStAt (w0 w : World) (msg : D) : Prop where
  one : Blk w w0.heap.size 24 (us msg.1)
  gro : Grow w0 w
  pla : Places w
theorem LStAt.grow {w0 w w' : World} {msg : D} (h : LStAt w0 w msg) (hg : Grow w w') : LStAt w0 w' msg := ⟨h.one.grow hg, h.gro.tr hg, h.pla.grow hg⟩
set_option maxRecDepth 100000 in
set_option maxHeartbeats 2000000 in
theorem lsteps_walk (msg : D) (w : World) (hP : Places w) : Calls Tryd.prog 3 #[.agg (us msg.1)] w fun e w' => e = .returned (.bool true) ∧ Grow w w' := by
  have HP := Lib.hid hP
  clear hP
  go_enter Tryd.func3, Tryd.ntmps3
  go_upto_region 1 with (fail)
  have hg0 : Grow w (w.alloc (.cells (us msg.1) 24)) := Below.alloc (Grow.refl w) (Nat.le_refl _) _
  refine wp_gen (fun W => LStAt w W msg) ⟨Blk.new _ _ _, hg0, HP.out.grow hg0⟩ ?_
  clear hg0
  intro w1 h1
  have H1 := Lib.hid h1
  clear h1
  have SM := Lib.hid msg.sz
  refine wp_region_anyC 8 (fun W => LStAt w W msg) (by kernel_rfl) (by kernel_rfl) (H1.out.grow (Grow.refl _).drew) ?_
  have hS := Stab.true_
  (refine anyC_call (i := 0) (some 3) (.bool true) rfl rfl (by kernel_rfl) (fun _ _ _ h => h) (by assumption) rfl (fun W hW => ?_) ?_)
  · go_simp; exact (awake_c _ hW.pla).mono (fun e w' h => ⟨h.1, hW.grow h.2, h.2⟩)
  simp only [Act.put, List.setIfInBounds_toArray, List.set_cons_zero, List.set_cons_succ]
  (refine anyC_val (i := 1) (some 4) rfl rfl (by kernel_rfl) (fun _ _ _ _ h => h) (by assumption) rfl ?_; apply Exists.intro; refine ⟨fun W hW => ?_, ?_⟩)
  · go_simp; try with_reducible rfl
  simp only [Act.put, List.setIfInBounds_toArray, List.set_cons_zero, List.set_cons_succ]
  refine anyC_load_row (i := 2) (some 5) rfl rfl (by kernel_rfl) (by assumption) rfl 24 (.tmp 1) rfl (w.heap.size) rfl _ ((us msg.1)) (0, 0) _ (fun W hW => hW.one) Tryd.underlying24 rfl (by rw [SM.out]; kernel_rfl) (fun _ _ _ h => h) ?_
  simp only [Act.put, List.setIfInBounds_toArray, List.set_cons_zero, List.set_cons_succ]
  refine anyC_load_row (i := 4) (some 7) rfl rfl (by kernel_rfl) (by assumption) rfl 24 (.tmp 1) rfl (w.heap.size) rfl _ ((us msg.1)) (0, 0) _ (fun W hW => hW.one) Tryd.underlying24 rfl (by rw [SM.out]; kernel_rfl) (fun _ _ _ h => h) ?_
  simp only [Act.put, List.setIfInBounds_toArray, List.set_cons_zero, List.set_cons_succ]
  refine anyC_one (i := 3) (by kernel_rfl) (fun W hW _ => ?_)
  refine wpOp_call (some 6) rfl rfl rfl (by go_simp) ((steps_c msg _).mono ?_)
  rintro e w2 ⟨va, rfl, hoa, hg2⟩
  obtain ⟨ga, ca, rfl, -, -, -, -⟩ := own_ints hoa (by omega)
  refine ⟨_, rfl, hW.grow hg2, (fun x => x.ownsRow 0 3 1 (.slice (some ⟨ga, 0, none⟩) 35 ca) 35 (ints (stepsE msg))), (fun _ _ h g => ownsRow_grow h g), ownsRow_base hoa (Nat.zero_le _), ?_⟩
  clear hoa hg2 hW
  simp only [Act.put, List.setIfInBounds_toArray, List.set_cons_zero, List.set_cons_succ]
  refine anyC_one (i := 5) (by kernel_rfl) (fun W hW hR => ?_)
  refine wpOp_call (some 8) rfl rfl rfl (by go_simp) ((rsteps_c msg _).mono ?_)
  rintro e w3 ⟨vb, rfl, hob, hg3⟩
  obtain ⟨gb, cb, rfl, -, -, -, -⟩ := own_ints hob (by omega)
  refine ⟨_, rfl, hW.grow hg3, (fun x => x.ownsRow 0 3 1 (.slice (some ⟨ga, 0, none⟩) 35 ca) 35 (ints (stepsE msg)) ∧ x.ownsRow 0 3 1 (.slice (some ⟨gb, 0, none⟩) 35 cb) 35 (ints (stepsE msg))), (fun _ _ h g => ⟨ownsRow_grow h.1 g, ownsRow_grow h.2 g⟩), ⟨ownsRow_grow hR hg3, ownsRow_base hob (Nat.zero_le _)⟩, ?_⟩
  clear hob hg3 hW hR
  simp only [Act.put, List.setIfInBounds_toArray, List.set_cons_zero, List.set_cons_succ]
  refine anyC_one (i := 6) (by kernel_rfl) (fun W hW hR => ?_)
  refine wpOp_call (some 9) rfl rfl rfl (by go_simp) ((ints_c 35 ga ca gb cb _ (by omega) (by omega) _ hR.1 hR.2).mono ?_)
  rintro e w4 ⟨rfl, hg4⟩
  refine ⟨_, rfl, hW.grow hg4, (fun _ => True), Stab.true_, trivial, ?_⟩
  clear hg4 hW hR
  simp only [Act.put, List.setIfInBounds_toArray, List.set_cons_zero, List.set_cons_succ]
  (refine anyC_val (i := 7) (some 10) rfl rfl (by kernel_rfl) (fun _ _ _ _ h => h) (by assumption) rfl ?_; apply Exists.intro; refine ⟨fun W hW => ?_, ?_⟩)
  · go_simp; try with_reducible rfl
  simp only [Act.put, List.setIfInBounds_toArray, List.set_cons_zero, List.set_cons_succ]
  refine anyC_tail_lit (by kernel_rfl) (fun w5 h5 hR => ?_)
  simp only [List.drop_succ_cons, List.drop_zero]
  go_wp2_with fail
  go_ret
  exact ⟨rfl, h5.gro⟩
end Go.Proofs.YteiimkglmiadbaaDoor
