/- The walk of the law OnetimeHolds: it answers true. -/
import Derived.Test.YteiimkglmiadbaaDoorAwake
namespace Go.Proofs.YteiimkglmiadbaaDoor
open Go.RowKit
structure HolAt (w0 w : World) (seed msg : D) : Prop where
  one : Blk w w0.heap.size 24 (us seed.1)
  two : Blk w (w0.heap.size + 1) 24 (us msg.1)
  gro : Grow w0 w
  pla : Places w
theorem HolAt.grow {w0 w w' : World} {seed msg : D} (h : HolAt w0 w seed msg) (hg : Grow w w') : HolAt w0 w' seed msg :=
  ⟨h.one.grow hg, h.two.grow hg, h.gro.tr hg, h.pla.grow hg⟩
theorem HolAt.row {w0 w : World} {seed msg : D} (h : HolAt w0 w seed msg) {g : Nat} (hg : w0.heap.size + 1 < g) (hp : 0 < w0.heap.size) (cs : Array Value) : HolAt w0 (w.setRow g cs) seed msg :=
  ⟨h.one.setRow_far (by omega) _, h.two.setRow_far (by omega) _, Below.setRow h.gro (by omega) _, h.pla.under (Below.setRow (Below.refl w0.heap.size w) (by omega) _) hp⟩
set_option maxRecDepth 100000 in
set_option maxHeartbeats 2000000 in
theorem law_holds_walk (seed msg : D) (w : World) (hP : Places w) : Calls Tryd.prog 5 #[.agg (us seed.1), .agg (us msg.1)] w fun e w' => e = .returned (.bool true) ∧ Grow w w' := by
  have HP := Lib.hid hP
  clear hP
  go_enter Tryd.func5, Tryd.ntmps5
  go_upto_region 1 with (fail)
  refine wp_gen (fun W => HolAt w W seed msg) ?_ ?_
  · have hb := ((Below.refl w.heap.size w).alloc (Nat.le_refl _) (.cells (us seed.1) 24)).alloc (by simp) (.cells (us msg.1) 24)
    exact ⟨(Blk.new _ _ _).alloc _, Blk.new1 _ _ _ _, hb, HP.out.grow hb⟩
  intro w1 h1
  have H1 := Lib.hid h1
  clear h1
  have S1 := Lib.hid seed.sz
  have S2 := Lib.hid msg.sz
  refine wp_region_anyC 6 (fun W => HolAt w W seed msg) (by kernel_rfl) (by kernel_rfl) (H1.out.grow (Grow.refl _).drew) ?_
  have hS := Stab.true_
  refine anyC_load_row (i := 0) (some 9) rfl rfl (by kernel_rfl) (by assumption) rfl 24 (.tmp 2) rfl (w.heap.size) rfl _ ((us seed.1)) (0, 0) _ (fun W hW => hW.one) Tryd.underlying24 rfl (by rw [S1.out]; kernel_rfl) (fun _ _ _ h => h) ?_
  simp only [Act.put, List.setIfInBounds_toArray, List.set_cons_zero, List.set_cons_succ]
  refine anyC_load_row (i := 1) (some 10) rfl rfl (by kernel_rfl) (by assumption) rfl 24 (.tmp 3) rfl ((w.heap.size + 1)) rfl _ ((us msg.1)) (0, 0) _ (fun W hW => hW.two) Tryd.underlying24 rfl (by rw [S2.out]; kernel_rfl) (fun _ _ _ h => h) ?_
  simp only [Act.put, List.setIfInBounds_toArray, List.set_cons_zero, List.set_cons_succ]
  refine anyC_load_row (i := 3) (some 12) rfl rfl (by kernel_rfl) (by assumption) rfl 24 (.tmp 2) rfl (w.heap.size) rfl _ ((us seed.1)) (0, 0) _ (fun W hW => hW.one) Tryd.underlying24 rfl (by rw [S1.out]; kernel_rfl) (fun _ _ _ h => h) ?_
  simp only [Act.put, List.setIfInBounds_toArray, List.set_cons_zero, List.set_cons_succ]
  refine anyC_two (i := 2) (j := 5) (by kernel_rfl) (fun W hW _ => ?_) (fun W hW _ => ?_)
  -- the signature first
  refine wpOp_call (some 11) rfl rfl rfl (by go_simp) ((sign_c seed msg _ hW.pla).mono ?_)
  rintro e w2 ⟨v, rfl, hsg, hg2⟩
  obtain ⟨A, c, rfl, hsl, hbs⟩ := SlD.of_own' hsg
  refine ⟨_, rfl, hW.grow hg2, (fun x => SlD x A 35 c (signE seed msg)), (fun _ _ h g => SlD.grow h g), hsl, ?_⟩
  clear hsg hg2 hsl hW
  have hS2 : Stab (fun x => SlD x A 35 c (signE seed msg)) := fun _ _ h g => SlD.grow h g
  simp only [Act.put, List.setIfInBounds_toArray, List.set_cons_zero, List.set_cons_succ]
  (refine anyC_call (i := 4) (some 13) (.agg (us (publicE seed).1)) rfl rfl (by kernel_rfl) (fun _ _ _ h => h) (by assumption) rfl (fun W hW => ?_) ?_)
  · go_simp; exact (public_c seed _ hW.pla).mono (fun e w' h => ⟨h.1, hW.grow h.2, h.2⟩)
  simp only [Act.put, List.setIfInBounds_toArray, List.set_cons_zero, List.set_cons_succ]
  refine anyC_alloc (i := 5) (some 6) rfl rfl (by kernel_rfl) hS2 24 (us D.zero.1) rfl (fun W => by go_simp; rfl) (fun W hW => hW.grow ((Grow.refl _).alloc (Nat.le_refl _) _)) ?_
  intro g hg
  obtain ⟨wg, hwg, hwr, hgs⟩ := hg
  have hlt : w.heap.size + 1 < g := hgs ▸ hwg.two.lt
  have hne : ∀ ga oa, A = some ⟨ga, oa, none⟩ → ga ≠ g := fun ga oa h => Nat.ne_of_lt (hgs ▸ hwr.lt (by omega) ga oa h)
  have Hne := Lib.hid hne
  clear hgs hwg hwr hne wg hS2 hbs
  simp only [Act.put, List.setIfInBounds_toArray, List.set_cons_zero, List.set_cons_succ]
  rotate_left 1
  -- the box first
  refine wpOp_alloc (some 6) 24 (us D.zero.1) rfl rfl rfl (by go_simp; rfl) ⟨hW.grow ((Grow.refl _).alloc (Nat.le_refl _) _), (fun x => Blk x W.heap.size 24 (us D.zero.1)), Stab.blk _ _ _, Blk.new _ _ _, ?_⟩
  obtain ⟨g, hg⟩ : ∃ g, g = W.heap.size := ⟨_, rfl⟩
  have hlt : w.heap.size + 1 < g := hg ▸ hW.two.lt
  rw [← hg]
  clear hg hW
  simp only [Act.put, List.setIfInBounds_toArray, List.set_cons_zero, List.set_cons_succ]
  refine anyC_one (i := 2) (by kernel_rfl) (fun W hW hR => ?_)
  refine wpOp_call (some 11) rfl rfl rfl (by go_simp) ((sign_c seed msg _ hW.pla).mono ?_)
  rintro e w2 ⟨v, rfl, hsg, hg2⟩
  obtain ⟨A, c, rfl, hsl, hbs⟩ := SlD.of_own' hsg
  have hS2 : Stab (fun x => SlD x A 35 c (signE seed msg) ∧ Blk x g 24 (us D.zero.1)) := fun _ _ h g => ⟨SlD.grow h.1 g, h.2.grow g⟩
  have hne : ∀ ga oa, A = some ⟨ga, oa, none⟩ → ga ≠ g := fun ga oa h => Nat.ne_of_gt (Nat.lt_of_lt_of_le hR.lt (hbs ga oa h))
  have Hne := Lib.hid hne
  clear hne hbs
  refine ⟨_, rfl, hW.grow hg2, (fun x => SlD x A 35 c (signE seed msg) ∧ Blk x g 24 (us D.zero.1)), hS2, ⟨hsl, hR.grow hg2⟩, ?_⟩
  clear hsg hg2 hsl hW hR
  simp only [Act.put, List.setIfInBounds_toArray, List.set_cons_zero, List.set_cons_succ]
  (refine anyC_call (i := 4) (some 13) (.agg (us (publicE seed).1)) rfl rfl (by kernel_rfl) (fun _ _ _ h => h) (by assumption) rfl (fun W hW => ?_) ?_)
  · go_simp; exact (public_c seed _ hW.pla).mono (fun e w' h => ⟨h.1, hW.grow h.2, h.2⟩)
  simp only [Act.put, List.setIfInBounds_toArray, List.set_cons_zero, List.set_cons_succ]
  clear hS2
  all_goals
    refine anyC_tail_lit (by kernel_rfl) (fun w2 h2 hR => ?_)
    simp only [List.drop_succ_cons, List.drop_zero]
    have hsl := Lib.hid hR.1
    have hG := hR.2
    have H2 := Lib.hid h2
    clear h2 hR hS
    have SP := (publicE seed).sz
    have OP := (publicE seed).one
    generalize hpp : publicE seed = pp at *
    have Hpp := Lib.hid hpp
    clear hpp
    go_upto_region 2 with (refine wpList_store_row rfl 24 (.tmp 6) (.tmp 13) rfl (g) (us pp.1) rfl rfl _ _ hG (by rw [SP]; kernel_rfl) (by rw [SP]; exact D.zero.sz) OP ?_)
    simp only [Act.put]
    refine wp_gen (fun W => HolAt w W seed msg ∧ SlD W A 35 c (signE seed msg) ∧ Blk W g 24 (us pp.1)) ⟨H2.out.row hlt HP.out.1 _, hsl.out.setRow Hne.out _, hG.setRow _⟩ ?_
    intro w3 h3
    have hm := h3.1.two
    have sm := msg.sz
    have H3 := Lib.hid h3
    clear h3
    go_wp2_with (refine wpList_load_row_g rfl 24 (.tmp 3) rfl (w.heap.size + 1) rfl _ (us msg.1) (0, 0) _ hm Tryd.underlying24 rfl (by rw [sm]; kernel_rfl) ?_)
    refine (reach_c msg A 35 c (signE seed msg) _ H3.out.1.pla H3.out.2.1).mono ?_
    rintro e w4 ⟨rfl, hg4⟩
    obtain ⟨rr, hrr⟩ : ∃ rr, rr = pp := ⟨_, rfl⟩
    have hrp : reachP msg (signE seed msg) = (rr, true) := by unfold reachP; rw [if_pos (signE_length seed msg), reach_sign, Hpp.out, hrr]
    rw [hrp]
    have Hrr := Lib.hid hrr
    have SR := rr.sz
    have OR := rr.one
    have G4 := Lib.hid hg4
    clear hg4 hm hrp hrr
    have hzz : #[Value.int .u32 0, .int .u32 0, .int .u32 0, .int .u32 0].size = (us rr.1).size := by rw [SR]; rfl
    go_upto_region 3 with (refine wpList_store_new rfl 24 (.tmp 7) (.tmp 18) rfl (us rr.1) rfl rfl (by rw [SR]; kernel_rfl) hzz OR ?_)
    obtain ⟨bk, hbk⟩ : ∃ b, b = w4.heap.size := ⟨_, rfl⟩
    refine wp_gen (fun W => Blk W bk 24 (us rr.1) ∧ Grow w4 W) (hbk ▸ ⟨Blk.new _ _ _, (Grow.refl _).alloc (Nat.le_refl _) _⟩) ?_
    rw [← hbk]
    clear hbk hzz
    intro w5 h5
    have G5 := Lib.hid (G4.out.tr h5.2)
    have HK := Lib.hid h5.1
    clear h5
    go_wp2_with fail
    refine (awake_c _ (H3.out.1.pla.grow G5.out)).mono ?_
    rintro e w6 ⟨rfl, hg6⟩
    have G6 := Lib.hid (G5.out.tr hg6)
    have HK6 := Lib.hid (HK.out.grow hg6)
    have hG6 := H3.out.2.2.grow G6.out
    have hm6 := H3.out.1.two.grow G6.out
    clear hg6
    go_wp2_with (first
      | (refine wpList_load_row_g rfl 24 (.tmp 6) rfl (g) rfl _ (us pp.1) (0, 0) _ hG6 Tryd.underlying24 rfl (by rw [SP]; kernel_rfl) ?_)
      | (refine wpList_load_row_g rfl 24 (.tmp 3) rfl (w.heap.size + 1) rfl _ (us msg.1) (0, 0) _ hm6 Tryd.underlying24 rfl (by rw [sm]; kernel_rfl) ?_))
    refine (check_c pp msg A 35 c (signE seed msg) _ (H3.out.1.pla.grow G6.out) (H3.out.2.1.grow G6.out)).mono ?_
    rintro e w7 ⟨rfl, hg7⟩
    have hcc : checkE pp msg (signE seed msg) = true := by rw [← Hpp.out]; exact check_sign seed msg
    rw [hcc]
    have hG7 := hG6.grow hg7
    have hK7 := HK6.out.grow hg7
    have G7 := Lib.hid (G6.out.tr hg7)
    clear hg7 hcc hG6 hm6
    have hq := fun W => eql_D rr pp W
    go_wp2_with (first
      | (refine wpList_load_row_g rfl 24 (.tmp 7) rfl (bk) rfl _ (us rr.1) (0, 0) _ hK7 Tryd.underlying24 rfl (by rw [SR]; kernel_rfl) ?_)
      | (refine wpList_load_row_g rfl 24 (.tmp 6) rfl (g) rfl _ (us pp.1) (0, 0) _ hG7 Tryd.underlying24 rfl (by rw [SP]; kernel_rfl) ?_))
    go_ret
    exact ⟨by rw [decide_eq_true Hrr.out]; rfl, H3.out.1.gro.tr G7.out⟩
end Go.Proofs.YteiimkglmiadbaaDoor
