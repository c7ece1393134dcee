/- The walk of the law OnetimeKeys: it answers true. -/
import Derived.Test.YteiimkglmiadbaaDoorAwake
import Derived.Test.YteiimkglmiadbaaDoorRSign
namespace Go.Proofs.YteiimkglmiadbaaDoor
open Go.RowKit
structure LKyAt (w0 w : World) (a b : D) : Prop where
  one : Blk w w0.heap.size 24 (us a.1)
  two : Blk w (w0.heap.size + 1) 24 (us b.1)
  gro : Grow w0 w
  pla : Places w
theorem LKyAt.grow {w0 w w' : World} {a b : D} (h : LKyAt w0 w a b) (hg : Grow w w') : LKyAt w0 w' a b := ⟨h.one.grow hg, h.two.grow hg, h.gro.tr hg, h.pla.grow hg⟩
set_option maxRecDepth 100000 in
set_option maxHeartbeats 2000000 in
theorem lkeys_walk (a b : D) (w : World) (hP : Places w) : Calls Tryd.prog 4 #[.agg (us a.1), .agg (us b.1)] w fun e w' => e = .returned (.bool true) ∧ Grow w w' := by
  have HP := Lib.hid hP
  clear hP
  go_enter Tryd.func4, Tryd.ntmps4
  go_upto_region 1 with (fail)
  have hg0 := ((Below.refl w.heap.size w).alloc (Nat.le_refl _) (.cells (us a.1) 24)).alloc (by simp) (.cells (us b.1) 24)
  refine wp_gen (fun W => LKyAt w W a b) ⟨(Blk.new _ _ _).alloc _, Blk.new1 _ _ _ _, hg0, HP.out.grow hg0⟩ ?_
  clear hg0
  intro w1 h1
  have H1 := Lib.hid h1
  clear h1
  have SA := Lib.hid a.sz
  have SB := Lib.hid b.sz
  obtain ⟨z, hz⟩ : ∃ z, z = publicE a := ⟨_, rfl⟩
  obtain ⟨z2, hz2⟩ : ∃ z, z = publicE a := ⟨_, rfl⟩
  have pa := Lib.hid (fun W (hW : Places W) => hz ▸ public_c a W hW)
  have pb := Lib.hid (fun W => hz2 ▸ rpublic_c a W)
  have Hzz := Lib.hid (hz.trans hz2.symm)
  clear hz hz2
  refine wp_region_anyC 17 (fun W => LKyAt w W a b) (by kernel_rfl) (by kernel_rfl) (H1.out.grow (Grow.refl _).drew) ?_
  have hS := Stab.true_
  (refine anyC_call (i := 0) (some 5) (.bool true) rfl rfl (by kernel_rfl) (fun _ _ _ h => h) (by assumption) rfl (fun W hW => ?_) ?_)
  · go_simp; exact (awake_c _ hW.pla).mono (fun e w' h => ⟨h.1, hW.grow h.2, h.2⟩)
  simp only [Act.put, List.setIfInBounds_toArray, List.set_cons_zero, List.set_cons_succ]
  (refine anyC_val (i := 1) (some 6) rfl rfl (by kernel_rfl) (fun _ _ _ _ h => h) (by assumption) rfl ?_; apply Exists.intro; refine ⟨fun W hW => ?_, ?_⟩)
  · go_simp; try with_reducible rfl
  simp only [Act.put, List.setIfInBounds_toArray, List.set_cons_zero, List.set_cons_succ]
  refine anyC_load_row (i := 2) (some 7) rfl rfl (by kernel_rfl) (by assumption) rfl 24 (.tmp 2) rfl (w.heap.size) rfl _ ((us a.1)) (0, 0) _ (fun W hW => hW.one) Tryd.underlying24 rfl (by rw [SA.out]; kernel_rfl) (fun _ _ _ h => h) ?_
  simp only [Act.put, List.setIfInBounds_toArray, List.set_cons_zero, List.set_cons_succ]
  (refine anyC_call (i := 3) (some 8) (.agg (us z.1)) rfl rfl (by kernel_rfl) (fun _ _ _ h => h) (by assumption) rfl (fun W hW => ?_) ?_)
  · go_simp; exact (pa.out _ hW.pla).mono (fun e w' h => ⟨h.1, hW.grow h.2, h.2⟩)
  simp only [Act.put, List.setIfInBounds_toArray, List.set_cons_zero, List.set_cons_succ]
  refine anyC_load_row (i := 4) (some 9) rfl rfl (by kernel_rfl) (by assumption) rfl 24 (.tmp 2) rfl (w.heap.size) rfl _ ((us a.1)) (0, 0) _ (fun W hW => hW.one) Tryd.underlying24 rfl (by rw [SA.out]; kernel_rfl) (fun _ _ _ h => h) ?_
  simp only [Act.put, List.setIfInBounds_toArray, List.set_cons_zero, List.set_cons_succ]
  (refine anyC_call (i := 5) (some 10) (.agg (us z2.1)) rfl rfl (by kernel_rfl) (fun _ _ _ h => h) (by assumption) rfl (fun W hW => ?_) ?_)
  · go_simp; exact (pb.out _).mono (fun e w' h => ⟨h.1, hW.grow h.2, h.2⟩)
  simp only [Act.put, List.setIfInBounds_toArray, List.set_cons_zero, List.set_cons_succ]
  (refine anyC_val (i := 6) (some 11) rfl rfl (by kernel_rfl) (fun _ _ _ _ h => h) (by assumption) rfl ?_; apply Exists.intro; refine ⟨fun W hW => ?_, ?_⟩)
  · have c := eqin_D z z2 W; rw [decide_eq_true Hzz.out] at c; go_simp; try with_reducible rfl
  simp only [Act.put, List.setIfInBounds_toArray, List.set_cons_zero, List.set_cons_succ]
  (refine anyC_val (i := 7) (some 12) rfl rfl (by kernel_rfl) (fun _ _ _ _ h => h) (by assumption) rfl ?_; apply Exists.intro; refine ⟨fun W hW => ?_, ?_⟩)
  · go_simp; try with_reducible rfl
  simp only [Act.put, List.setIfInBounds_toArray, List.set_cons_zero, List.set_cons_succ]
  (refine anyC_val (i := 8) (some 13) rfl rfl (by kernel_rfl) (fun _ _ _ _ h => h) (by assumption) rfl ?_; apply Exists.intro; refine ⟨fun W hW => ?_, ?_⟩)
  · go_simp; try with_reducible rfl
  simp only [Act.put, List.setIfInBounds_toArray, List.set_cons_zero, List.set_cons_succ]
  refine anyC_load_row (i := 9) (some 14) rfl rfl (by kernel_rfl) (by assumption) rfl 24 (.tmp 2) rfl (w.heap.size) rfl _ ((us a.1)) (0, 0) _ (fun W hW => hW.one) Tryd.underlying24 rfl (by rw [SA.out]; kernel_rfl) (fun _ _ _ h => h) ?_
  simp only [Act.put, List.setIfInBounds_toArray, List.set_cons_zero, List.set_cons_succ]
  refine anyC_load_row (i := 10) (some 15) rfl rfl (by kernel_rfl) (by assumption) rfl 24 (.tmp 3) rfl ((w.heap.size + 1)) rfl _ ((us b.1)) (0, 0) _ (fun W hW => hW.two) Tryd.underlying24 rfl (by rw [SB.out]; kernel_rfl) (fun _ _ _ h => h) ?_
  simp only [Act.put, List.setIfInBounds_toArray, List.set_cons_zero, List.set_cons_succ]
  refine anyC_load_row (i := 12) (some 17) rfl rfl (by kernel_rfl) (by assumption) rfl 24 (.tmp 2) rfl (w.heap.size) rfl _ ((us a.1)) (0, 0) _ (fun W hW => hW.one) Tryd.underlying24 rfl (by rw [SA.out]; kernel_rfl) (fun _ _ _ h => h) ?_
  simp only [Act.put, List.setIfInBounds_toArray, List.set_cons_zero, List.set_cons_succ]
  refine anyC_load_row (i := 13) (some 18) rfl rfl (by kernel_rfl) (by assumption) rfl 24 (.tmp 3) rfl ((w.heap.size + 1)) rfl _ ((us b.1)) (0, 0) _ (fun W hW => hW.two) Tryd.underlying24 rfl (by rw [SB.out]; kernel_rfl) (fun _ _ _ h => h) ?_
  simp only [Act.put, List.setIfInBounds_toArray, List.set_cons_zero, List.set_cons_succ]
  refine anyC_one (i := 11) (by kernel_rfl) (fun W hW _ => ?_)
  refine wpOp_call (some 16) rfl rfl rfl (by go_simp) ((sign_c a b _ hW.pla).mono ?_)
  rintro e w2 ⟨va, rfl, hoa, hg2⟩
  obtain ⟨A, ca, rfl, hsa⟩ := SlD.of_own hoa
  refine ⟨_, rfl, hW.grow hg2, (fun x => SlD x A 35 ca (signE a b)), (fun _ _ h g => h.grow g), hsa, ?_⟩
  clear hoa hsa hg2 hW
  simp only [Act.put, List.setIfInBounds_toArray, List.set_cons_zero, List.set_cons_succ]
  refine anyC_one (i := 14) (by kernel_rfl) (fun W hW hR => ?_)
  refine wpOp_call (some 19) rfl rfl rfl (by go_simp) ((rsig_c a b _).mono ?_)
  rintro e w3 ⟨vb, rfl, hob, hg3⟩
  obtain ⟨B, cb, rfl, hsb⟩ := SlD.of_own hob
  refine ⟨_, rfl, hW.grow hg3, (fun x => SlD x A 35 ca (signE a b) ∧ SlD x B 35 cb (signE a b)), (fun _ _ h g => ⟨h.1.grow g, h.2.grow g⟩), ⟨hR.grow hg3, hsb⟩, ?_⟩
  clear hob hsb hg3 hW hR
  simp only [Act.put, List.setIfInBounds_toArray, List.set_cons_zero, List.set_cons_succ]
  refine anyC_one (i := 15) (by kernel_rfl) (fun W hW hR => ?_)
  refine wpOp_call (some 20) rfl rfl rfl (by go_simp) ((rsame_c 35 (by omega) A B ca cb _ _ hR.1 hR.2).mono ?_)
  rintro e w4 ⟨rfl, hg4⟩
  refine ⟨_, rfl, hW.grow hg4, (fun _ => True), Stab.true_, trivial, ?_⟩
  clear hg4 hW hR
  simp only [Act.put, List.setIfInBounds_toArray, List.set_cons_zero, List.set_cons_succ]
  (refine anyC_val (i := 16) (some 21) rfl rfl (by kernel_rfl) (fun _ _ _ _ h => h) (by assumption) rfl ?_; apply Exists.intro; refine ⟨fun W hW => ?_, ?_⟩)
  · go_simp; try with_reducible rfl
  simp only [Act.put, List.setIfInBounds_toArray, List.set_cons_zero, List.set_cons_succ]
  refine anyC_tail_lit (by kernel_rfl) (fun w5 h5 hR => ?_)
  simp only [List.drop_succ_cons, List.drop_zero]
  go_wp2_with fail
  go_ret
  exact ⟨rfl, h5.gro⟩
end Go.Proofs.YteiimkglmiadbaaDoor
