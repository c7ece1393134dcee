/- The walk of the law OnetimeUnlike: it answers true. -/
import Derived.Test.YteiimkglmiadbaaDoorAwake
import Derived.Test.YteiimkglmiadbaaDoorUnPure
import Derived.Test.YteiimkglmiadbaaDoorMore
namespace Go.Proofs.YteiimkglmiadbaaDoor
open Go.RowKit
structure UnAt (w0 w : World) (ga ca gb cb : Nat) (a b : D) : Prop where
  one : Blk w w0.heap.size 24 (us a.1)
  two : Blk w (w0.heap.size + 1) 24 (us b.1)
  sa : w.ownsRow 0 3 1 (.slice (some ⟨ga, 0, none⟩) 35 ca) 35 (ints (stepsE a))
  sb : w.ownsRow 0 3 1 (.slice (some ⟨gb, 0, none⟩) 35 cb) 35 (ints (stepsE b))
  gro : Grow w0 w
  pla : Places w
theorem UnAt.grow {w0 w w' : World} {ga ca gb cb : Nat} {a b : D} (h : UnAt w0 w ga ca gb cb a b) (hg : Grow w w') : UnAt w0 w' ga ca gb cb a b :=
  ⟨h.one.grow hg, h.two.grow hg, ownsRow_grow h.sa hg, ownsRow_grow h.sb hg, h.gro.tr hg, h.pla.grow hg⟩
set_option maxRecDepth 100000 in
set_option maxHeartbeats 2000000 in
theorem unlike_walk (a b : D) (w : World) (hP : Places w) : Calls Tryd.prog 7 #[.agg (us a.1), .agg (us b.1)] w fun e w' => e = .returned (.bool true) ∧ Grow w w' := by
  have HP := Lib.hid hP
  clear hP
  go_enter Tryd.func7, Tryd.ntmps7
  go_upto_region 1 with (fail)
  refine wp_gen (fun W => Blk W w.heap.size 24 (us a.1) ∧ Blk W (w.heap.size + 1) 24 (us b.1) ∧ Grow w W) ⟨(Blk.new _ _ _).alloc _, Blk.new1 _ _ _ _, ((Below.refl w.heap.size w).alloc (Nat.le_refl _) _).alloc (by simp) _⟩ ?_
  intro w1 h1
  have H1 := Lib.hid h1
  clear h1
  have S1 := Lib.hid a.sz
  have S2 := Lib.hid b.sz
  refine wp_region_anyC 4 (fun W => Blk W w.heap.size 24 (us a.1) ∧ Blk W (w.heap.size + 1) 24 (us b.1) ∧ Grow w W) (by kernel_rfl) (by kernel_rfl) ⟨H1.out.1.drew, H1.out.2.1.drew, H1.out.2.2.drew⟩ ?_
  have hS := Stab.true_
  refine anyC_load_row (i := 0) (some 10) rfl rfl (by kernel_rfl) (by assumption) rfl 24 (.tmp 2) rfl (w.heap.size) rfl _ ((us a.1)) (0, 0) _ (fun W hW => hW.1) Tryd.underlying24 rfl (by rw [S1.out]; kernel_rfl) (fun _ _ _ h => h) ?_
  simp only [Act.put, List.setIfInBounds_toArray, List.set_cons_zero, List.set_cons_succ]
  refine anyC_load_row (i := 2) (some 12) rfl rfl (by kernel_rfl) (by assumption) rfl 24 (.tmp 3) rfl ((w.heap.size + 1)) rfl _ ((us b.1)) (0, 0) _ (fun W hW => hW.2.1) Tryd.underlying24 rfl (by rw [S2.out]; kernel_rfl) (fun _ _ _ h => h) ?_
  simp only [Act.put, List.setIfInBounds_toArray, List.set_cons_zero, List.set_cons_succ]
  refine anyC_one (i := 1) (by kernel_rfl) (fun W hW _ => ?_)
  refine wpOp_call (some 11) rfl rfl rfl (by go_simp) ((steps_c a _).mono ?_)
  rintro e w2 ⟨va, rfl, hoa, hg2⟩
  obtain ⟨ga, ca, rfl, -, -, -, -⟩ := own_ints hoa (by omega)
  refine ⟨_, rfl, ⟨hW.1.grow hg2, hW.2.1.grow hg2, hW.2.2.tr hg2⟩, (fun x => x.ownsRow 0 3 1 (.slice (some ⟨ga, 0, none⟩) 35 ca) 35 (ints (stepsE a))), (fun _ _ h g => ownsRow_grow h g), ownsRow_base hoa (Nat.zero_le _), ?_⟩
  clear hoa hg2 hW
  simp only [Act.put, List.setIfInBounds_toArray, List.set_cons_zero, List.set_cons_succ]
  refine anyC_one (i := 3) (by kernel_rfl) (fun W hW hR => ?_)
  refine wpOp_call (some 13) rfl rfl rfl (by go_simp) ((steps_c b _).mono ?_)
  rintro e w3 ⟨vb, rfl, hob, hg3⟩
  obtain ⟨gb, cb, rfl, -, -, -, -⟩ := own_ints hob (by omega)
  refine ⟨_, rfl, ⟨hW.1.grow hg3, hW.2.1.grow hg3, hW.2.2.tr hg3⟩, (fun x => x.ownsRow 0 3 1 (.slice (some ⟨ga, 0, none⟩) 35 ca) 35 (ints (stepsE a)) ∧ x.ownsRow 0 3 1 (.slice (some ⟨gb, 0, none⟩) 35 cb) 35 (ints (stepsE b))), (fun _ _ h g => ⟨ownsRow_grow h.1 g, ownsRow_grow h.2 g⟩), ⟨ownsRow_grow hR hg3, ownsRow_base hob (Nat.zero_le _)⟩, ?_⟩
  clear hob hg3 hW hR
  simp only [Act.put, List.setIfInBounds_toArray, List.set_cons_zero, List.set_cons_succ]
  refine anyC_tail_lit (by kernel_rfl) (fun w4 h4 hR => ?_)
  simp only [List.drop_succ_cons, List.drop_zero]
  have HU := Lib.hid (UnAt.mk h4.1 h4.2.1 hR.1 hR.2 h4.2.2 (HP.out.grow h4.2.2) : UnAt w w4 ga ca gb cb a b)
  clear h4 hR hS
  have h35 : (((35 : Nat) : Int) != 35) = false := by decide
  go_wp2_with fail
  clear h35
  go_loopw [7, 8, 9] (fun l m i wr => ∃ j : Nat, j ≤ 35 ∧ i = .int .i64 j ∧ l = .bool (lessTo a b j) ∧ m = .bool (lessTo b a j) ∧ UnAt w wr ga ca gb cb a b) (fun _ _ i _ => 35 - (intOf i).toNat)
  case atStart => exact ⟨0, by omega, rfl, rfl, rfl, HU.out⟩
  case round =>
    obtain ⟨j, hj, rfl, rfl, rfl, hN⟩ := hrel
    have HN := Lib.hid hN
    clear hN HU
    by_cases hlt : j < 35
    · have fa := Lib.hid (fun W (hW : UnAt w W ga ca gb cb a b) => own_ints_lit hW.sa (by omega) W (Grow.refl _) j hlt)
      have fb := Lib.hid (fun W (hW : UnAt w W ga ca gb cb a b) => own_ints_lit hW.sb (by omega) W (Grow.refl _) j hlt)
      have ba := stepsE_getD_lt a j
      have ea := Lib.hid (lessTo_succ a b j)
      have eb := Lib.hid (lessTo_succ b a j)
      generalize hx : (stepsE a).getD j 0 = x at *
      generalize hy : (stepsE b).getD j 0 = y at *
      clear hx hy
      generalize hl : lessTo a b j = l at *
      generalize hm : lessTo b a j = m at *
      clear hl hm
      have c0 := fa.out wr HN.out
      have t1 : decide ((x : Int) < 0) = false := by simp
      have t2 : decide ((15 : Int) < (x : Int)) = false := by simp; omega
      have t3 : decide ((j : Int) < 35) = true := by simp; omega
      have b1 : (0 : Int) ≤ j := by omega
      have b2 : (j : Int) < 35 := by omega
      go_upto_region 10 with (fail)
      clear c0 t1 t2 t3
      go_cut [7] from 22 to 61 (fun l' wx => l' = .bool (lessTo a b (j + 1)) ∧ UnAt w wx ga ca gb cb a b)
      case first =>
        refine wp_region_all (fun W => UnAt w W ga ca gb cb a b) (by kernel_rfl) (by kernel_rfl) (HN.out.grow (Grow.refl _).drew) ?_
        cases l
        · skip
          (refine quiet_ex rfl ?_; apply Exists.intro; refine ⟨fun W hW => ?_, ?_⟩)
          · go_simp; try with_reducible rfl
          simp only [Act.put, List.setIfInBounds_toArray, List.set_cons_zero, List.set_cons_succ]
          (refine quiet_ex rfl ?_; apply Exists.intro; refine ⟨fun W hW => ?_, ?_⟩)
          · go_simp; try with_reducible rfl
          simp only [Act.put, List.setIfInBounds_toArray, List.set_cons_zero, List.set_cons_succ]
          (refine quiet_ex rfl ?_; apply Exists.intro; refine ⟨fun W hW => ?_, ?_⟩)
          · go_simp; try with_reducible rfl
          simp only [Act.put, List.setIfInBounds_toArray, List.set_cons_zero, List.set_cons_succ]
          (refine quiet_ex rfl ?_; apply Exists.intro; refine ⟨fun W hW => ?_, ?_⟩)
          · go_simp; try with_reducible rfl
          simp only [Act.put, List.setIfInBounds_toArray, List.set_cons_zero, List.set_cons_succ]
          (refine quiet_ex rfl ?_; apply Exists.intro; refine ⟨fun W hW => ?_, ?_⟩)
          · have c := fa.out W hW; go_simp; try with_reducible rfl
          simp only [Act.put, List.setIfInBounds_toArray, List.set_cons_zero, List.set_cons_succ]
          (refine quiet_ex rfl ?_; apply Exists.intro; refine ⟨fun W hW => ?_, ?_⟩)
          · have c := fa.out W hW; go_simp; try with_reducible rfl
          simp only [Act.put, List.setIfInBounds_toArray, List.set_cons_zero, List.set_cons_succ]
          (refine quiet_ex rfl ?_; apply Exists.intro; refine ⟨fun W hW => ?_, ?_⟩)
          · go_simp; try with_reducible rfl
          simp only [Act.put, List.setIfInBounds_toArray, List.set_cons_zero, List.set_cons_succ]
          (refine quiet_ex rfl ?_; apply Exists.intro; refine ⟨fun W hW => ?_, ?_⟩)
          · go_simp; try with_reducible rfl
          simp only [Act.put, List.setIfInBounds_toArray, List.set_cons_zero, List.set_cons_succ]
          (refine quiet_ex rfl ?_; apply Exists.intro; refine ⟨fun W hW => ?_, ?_⟩)
          · have c := fb.out W hW; go_simp; try with_reducible rfl
          simp only [Act.put, List.setIfInBounds_toArray, List.set_cons_zero, List.set_cons_succ]
          (refine quiet_ex rfl ?_; apply Exists.intro; refine ⟨fun W hW => ?_, ?_⟩)
          · have c := fb.out W hW; go_simp; try with_reducible rfl
          simp only [Act.put, List.setIfInBounds_toArray, List.set_cons_zero, List.set_cons_succ]
          (refine quiet_ex rfl ?_; apply Exists.intro; refine ⟨fun W hW => ?_, ?_⟩)
          · go_simp; try with_reducible rfl
          simp only [Act.put, List.setIfInBounds_toArray, List.set_cons_zero, List.set_cons_succ]
          (refine quiet_ex rfl ?_; apply Exists.intro; refine ⟨fun W hW => ?_, ?_⟩)
          · go_simp; try with_reducible rfl
          simp only [Act.put, List.setIfInBounds_toArray, List.set_cons_zero, List.set_cons_succ]
          (refine quiet_ex rfl ?_; apply Exists.intro; refine ⟨fun W hW => ?_, ?_⟩)
          · go_simp; try with_reducible rfl
          simp only [Act.put, List.setIfInBounds_toArray, List.set_cons_zero, List.set_cons_succ]
          refine wpQuiet_nil ?_
          intro w5 h5
          go_wp2_with fail
          go_meet
          case rel => exact ⟨by rw [ea.out]; simp, h5⟩
        · skip
          (refine quiet_ex rfl ?_; apply Exists.intro; refine ⟨fun W hW => ?_, ?_⟩)
          · go_simp; try with_reducible rfl
          simp only [Act.put, List.setIfInBounds_toArray, List.set_cons_zero, List.set_cons_succ]
          refine quiet_ex_skips (.bool true) 9 rfl (fun W hW => ?_) (by kernel_rfl) ?_
          · go_simp
          simp only [putsU, List.drop_succ_cons, List.drop_zero, Act.put, List.setIfInBounds_toArray, List.set_cons_zero, List.set_cons_succ]
          (refine quiet_ex rfl ?_; apply Exists.intro; refine ⟨fun W hW => ?_, ?_⟩)
          · go_simp; try with_reducible rfl
          simp only [Act.put, List.setIfInBounds_toArray, List.set_cons_zero, List.set_cons_succ]
          (refine quiet_ex rfl ?_; apply Exists.intro; refine ⟨fun W hW => ?_, ?_⟩)
          · go_simp; try with_reducible rfl
          simp only [Act.put, List.setIfInBounds_toArray, List.set_cons_zero, List.set_cons_succ]
          refine wpQuiet_nil ?_
          intro w5 h5
          go_wp2_with fail
          go_meet
          case rel => exact ⟨by rw [ea.out]; simp, h5⟩
      case rest =>
        obtain ⟨rfl, h5⟩ := hcut
        go_upto_region 11 with (fail)
        refine wp_region_all (fun W => UnAt w W ga ca gb cb a b) (by kernel_rfl) (by kernel_rfl) (h5.grow (Grow.refl _).drew) ?_
        cases m
        · skip
          (refine quiet_ex rfl ?_; apply Exists.intro; refine ⟨fun W hW => ?_, ?_⟩)
          · go_simp; try with_reducible rfl
          simp only [Act.put, List.setIfInBounds_toArray, List.set_cons_zero, List.set_cons_succ]
          (refine quiet_ex rfl ?_; apply Exists.intro; refine ⟨fun W hW => ?_, ?_⟩)
          · go_simp; try with_reducible rfl
          simp only [Act.put, List.setIfInBounds_toArray, List.set_cons_zero, List.set_cons_succ]
          (refine quiet_ex rfl ?_; apply Exists.intro; refine ⟨fun W hW => ?_, ?_⟩)
          · go_simp; try with_reducible rfl
          simp only [Act.put, List.setIfInBounds_toArray, List.set_cons_zero, List.set_cons_succ]
          (refine quiet_ex rfl ?_; apply Exists.intro; refine ⟨fun W hW => ?_, ?_⟩)
          · go_simp; try with_reducible rfl
          simp only [Act.put, List.setIfInBounds_toArray, List.set_cons_zero, List.set_cons_succ]
          (refine quiet_ex rfl ?_; apply Exists.intro; refine ⟨fun W hW => ?_, ?_⟩)
          · have c := fa.out W hW; go_simp; try with_reducible rfl
          simp only [Act.put, List.setIfInBounds_toArray, List.set_cons_zero, List.set_cons_succ]
          (refine quiet_ex rfl ?_; apply Exists.intro; refine ⟨fun W hW => ?_, ?_⟩)
          · have c := fa.out W hW; go_simp; try with_reducible rfl
          simp only [Act.put, List.setIfInBounds_toArray, List.set_cons_zero, List.set_cons_succ]
          (refine quiet_ex rfl ?_; apply Exists.intro; refine ⟨fun W hW => ?_, ?_⟩)
          · go_simp; try with_reducible rfl
          simp only [Act.put, List.setIfInBounds_toArray, List.set_cons_zero, List.set_cons_succ]
          (refine quiet_ex rfl ?_; apply Exists.intro; refine ⟨fun W hW => ?_, ?_⟩)
          · go_simp; try with_reducible rfl
          simp only [Act.put, List.setIfInBounds_toArray, List.set_cons_zero, List.set_cons_succ]
          (refine quiet_ex rfl ?_; apply Exists.intro; refine ⟨fun W hW => ?_, ?_⟩)
          · have c := fb.out W hW; go_simp; try with_reducible rfl
          simp only [Act.put, List.setIfInBounds_toArray, List.set_cons_zero, List.set_cons_succ]
          (refine quiet_ex rfl ?_; apply Exists.intro; refine ⟨fun W hW => ?_, ?_⟩)
          · have c := fb.out W hW; go_simp; try with_reducible rfl
          simp only [Act.put, List.setIfInBounds_toArray, List.set_cons_zero, List.set_cons_succ]
          (refine quiet_ex rfl ?_; apply Exists.intro; refine ⟨fun W hW => ?_, ?_⟩)
          · go_simp; try with_reducible rfl
          simp only [Act.put, List.setIfInBounds_toArray, List.set_cons_zero, List.set_cons_succ]
          (refine quiet_ex rfl ?_; apply Exists.intro; refine ⟨fun W hW => ?_, ?_⟩)
          · go_simp; try with_reducible rfl
          simp only [Act.put, List.setIfInBounds_toArray, List.set_cons_zero, List.set_cons_succ]
          (refine quiet_ex rfl ?_; apply Exists.intro; refine ⟨fun W hW => ?_, ?_⟩)
          · go_simp; try with_reducible rfl
          simp only [Act.put, List.setIfInBounds_toArray, List.set_cons_zero, List.set_cons_succ]
          refine wpQuiet_nil ?_
          intro w6 h6
          go_wp2_with fail
          go_roundw
          case rel =>
            exact ⟨j + 1, by omega, by go_num, rfl, by rw [eb.out]; simp, h6⟩
          case measure => simp [intOf]; omega
        · skip
          (refine quiet_ex rfl ?_; apply Exists.intro; refine ⟨fun W hW => ?_, ?_⟩)
          · go_simp; try with_reducible rfl
          simp only [Act.put, List.setIfInBounds_toArray, List.set_cons_zero, List.set_cons_succ]
          refine quiet_ex_skips (.bool true) 9 rfl (fun W hW => ?_) (by kernel_rfl) ?_
          · go_simp
          simp only [putsU, List.drop_succ_cons, List.drop_zero, Act.put, List.setIfInBounds_toArray, List.set_cons_zero, List.set_cons_succ]
          (refine quiet_ex rfl ?_; apply Exists.intro; refine ⟨fun W hW => ?_, ?_⟩)
          · go_simp; try with_reducible rfl
          simp only [Act.put, List.setIfInBounds_toArray, List.set_cons_zero, List.set_cons_succ]
          (refine quiet_ex rfl ?_; apply Exists.intro; refine ⟨fun W hW => ?_, ?_⟩)
          · go_simp; try with_reducible rfl
          simp only [Act.put, List.setIfInBounds_toArray, List.set_cons_zero, List.set_cons_succ]
          refine wpQuiet_nil ?_
          intro w6 h6
          go_wp2_with fail
          go_roundw
          case rel =>
            exact ⟨j + 1, by omega, by go_num, rfl, by rw [eb.out]; simp, h6⟩
          case measure => simp [intOf]; omega
    · have e : j = 35 := by omega
      subst e
      rw [lessTo_eq a b, lessTo_eq b a]
      have hab : decide (b = a) = decide (a = b) := by by_cases h : a = b <;> simp [h, eq_comm]
      rw [hab]
      clear hab
      go_upto_region 12 with (fail)
      go_wp2_with fail
      refine (awake_c _ HN.out.pla).mono ?_
      rintro e w5 ⟨rfl, hg5⟩
      have h5 := HN.out.grow hg5
      have hB1 := h5.one
      have hB2 := h5.two
      have hG := Lib.hid h5.gro
      have hq := fun W => neq_D a b W
      clear h5 hg5 HN
      generalize decide (a = b) = nb at *
      cases nb
      all_goals
        go_wp2_with (first
          | (refine wpList_load_row_g rfl 24 (.tmp 2) rfl (w.heap.size) rfl _ (us a.1) (0, 0) _ hB1 Tryd.underlying24 rfl (by rw [S1.out]; kernel_rfl) ?_)
          | (refine wpList_load_row_g rfl 24 (.tmp 3) rfl (w.heap.size + 1) rfl _ (us b.1) (0, 0) _ hB2 Tryd.underlying24 rfl (by rw [S2.out]; kernel_rfl) ?_))
        go_ret
        exact ⟨rfl, hG.out⟩
end Go.Proofs.YteiimkglmiadbaaDoor
