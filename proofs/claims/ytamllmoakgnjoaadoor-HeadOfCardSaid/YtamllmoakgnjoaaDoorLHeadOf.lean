/- The walk of the law HeadOf: it answers true. -/
import Derived.Test.YtamllmoakgnjoaaDoorAlive43
namespace Go.Proofs.YtamllmoakgnjoaaDoor
open Go.RowKit
structure LHAt (w0 w : World) (ka kb : Int) (ra rb : D) : Prop where
  one : Blk w w0.heap.size THd (hdC ka ra)
  two : Blk w (w0.heap.size + 1) THd (hdC kb rb)
  gro : Grow w0 w
  pla : Places w
theorem LHAt.grow {w0 w w' : World} {ka kb : Int} {ra rb : D} (h : LHAt w0 w ka kb ra rb) (hg : Grow w w') : LHAt w0 w' ka kb ra rb := ⟨h.one.grow hg, h.two.grow hg, h.gro.tr hg, h.pla.grow hg⟩
set_option maxRecDepth 100000 in
set_option maxHeartbeats 4000000 in
theorem lheadOf_walk (ka : Int) (ra : D) (kb : Int) (rb : D) (w : World) (hP : Places w) (ha1 : -9223372036854775808 ≤ ka) (ha2 : ka ≤ 9223372036854775807) (hb1 : -9223372036854775808 ≤ kb) (hb2 : kb ≤ 9223372036854775807) :
    Calls Tryd.prog 4 #[.agg (hdC ka ra), .agg (hdC kb rb)] w fun e w' => e = .returned (.bool true) ∧ Grow w w' := by
  have HP := Lib.hid hP
  clear hP
  have q1 := Lib.hid (fun W hW => hof_c ka ra W ha1 ha2 hW)
  have q2 := Lib.hid (fun W hW => hof_c kb rb W hb1 hb2 hW)
  have p1 := Lib.hid (fun W hW => rhof_c ka ra W ha1 ha2 hW)
  have p2 := Lib.hid (fun W hW => rhof_c kb rb W hb1 hb2 hW)
  clear ha1 ha2 hb1 hb2
  go_enter Tryd.func4, Tryd.ntmps4
  go_upto_region 1 with (fail)
  have hg0 : Grow w ((w.alloc (.cells (hdC ka ra) THd)).alloc (.cells (hdC kb rb) THd)) := ((Below.refl w.heap.size w).alloc (Nat.le_refl _) _).alloc (by simp) _
  refine wp_gen (fun W => LHAt w W ka kb ra rb) ⟨(Blk.new _ _ _).alloc _, Blk.new1 _ _ _ _, hg0, HP.out.grow hg0⟩ ?_
  clear hg0
  intro w1 h1
  have H1 := Lib.hid h1
  clear h1
  go_wp2_with fail
  refine (alive43_c _ H1.out.pla).mono ?_
  rintro e w2 ⟨rfl, hg2⟩
  have H2 := Lib.hid (H1.out.grow hg2)
  clear hg2
  go_upto_region 3 with (fail)
  have Hx := Lib.hid (fun (h1 : ka = kb) (h2 : ra = rb) => (show hdE ka ra = hdE kb rb by rw [h1, h2]))
  generalize hx : hdE ka ra = x at *
  generalize hy : hdE kb rb = y at *
  clear hx hy
  refine wp_region_anyC 6 (fun W => LHAt w W ka kb ra rb) (by kernel_rfl) (by kernel_rfl) (H2.out.grow (Grow.refl _).drew) ?_
  have hS := Stab.true_
  refine anyC_load_row (i := 0) (some 9) rfl rfl (by kernel_rfl) (by assumption) rfl THd (.tmp 2) rfl w.heap.size rfl _ (hdC ka ra) (0, 0) _ (fun W hW => hW.one) Tryd.underlying29 rfl (hd_row ka ra) (fun _ _ _ h => h) ?_
  simp only [Act.put, List.setIfInBounds_toArray, List.set_cons_zero, List.set_cons_succ]
  (refine anyC_call (i := 1) (some 10) (.agg (us x.1)) rfl rfl (by kernel_rfl) (fun _ _ _ h => h) (by assumption) rfl (fun W hW => ?_) ?_)
  · go_simp; exact (q1.out _ hW.pla).mono (fun e w' h => ⟨h.1, hW.grow h.2, h.2⟩)
  simp only [Act.put, List.setIfInBounds_toArray, List.set_cons_zero, List.set_cons_succ]
  refine anyC_load_row (i := 2) (some 11) rfl rfl (by kernel_rfl) (by assumption) rfl THd (.tmp 3) rfl (w.heap.size + 1) rfl _ (hdC kb rb) (0, 0) _ (fun W hW => hW.two) Tryd.underlying29 rfl (hd_row kb rb) (fun _ _ _ h => h) ?_
  simp only [Act.put, List.setIfInBounds_toArray, List.set_cons_zero, List.set_cons_succ]
  (refine anyC_call (i := 3) (some 12) (.agg (us y.1)) rfl rfl (by kernel_rfl) (fun _ _ _ h => h) (by assumption) rfl (fun W hW => ?_) ?_)
  · go_simp; exact (q2.out _ hW.pla).mono (fun e w' h => ⟨h.1, hW.grow h.2, h.2⟩)
  simp only [Act.put, List.setIfInBounds_toArray, List.set_cons_zero, List.set_cons_succ]
  refine anyC_two (i := 4) (j := 5) (by kernel_rfl) (fun W hW _ => ?_) (fun W hW _ => ?_)
  · have keyt : True := trivial
    refine wpOp_alloc (some 5) 27 (us D.zero.1) rfl rfl rfl (by go_simp; rfl) ⟨hW.grow ((Grow.refl _).alloc (Nat.le_refl _) _), (fun x => Blk x W.heap.size 27 (us D.zero.1)), Stab.blk _ _ _, Blk.new _ _ _, ?_⟩
    obtain ⟨b5, hb5⟩ : ∃ b, b = W.heap.size := ⟨_, rfl⟩
    have hlb5 : w.heap.size + 1 < b5 := hb5 ▸ hW.two.lt
    rw [← hb5]
    clear hb5 hW
    simp only [Act.put, List.setIfInBounds_toArray, List.set_cons_zero, List.set_cons_succ]
    have hS2 : Stab (fun x => Blk x b5 27 (us D.zero.1)) := fun _ _ h g => h.grow g
    refine anyC_alloc (i := 5) (some 6) rfl rfl (by kernel_rfl) hS2 27 (us D.zero.1) rfl (fun W => by go_simp; rfl) (fun W hW => hW.grow ((Grow.refl _).alloc (Nat.le_refl _) _)) ?_
    intro b6 hg
    obtain ⟨wg, hwg, hwr, hgs⟩ := hg
    have hlb6 : w.heap.size + 1 < b6 := hgs ▸ hwg.two.lt
    have hne : b5 ≠ b6 := by have := hwr.lt; omega
    clear hwg hwr hgs hS2
    refine anyC_weaken (R2 := fun x => Blk x b5 27 (us D.zero.1) ∧ Blk x b6 27 (us D.zero.1)) (fun x hx => ⟨hx.1, hx.2⟩) ?_
    simp only [Act.put, List.setIfInBounds_toArray, List.set_cons_zero, List.set_cons_succ]
    refine anyC_tail_lit (by kernel_rfl) (fun w3 h3 hR => ?_)
    simp only [List.drop_succ_cons, List.drop_zero]
    have r5 := hR.1
    have r6 := hR.2.setRow_far (g' := b5) (Ne.symm hne) (us x.1)
    have H3 := Lib.hid h3
    have HR := Lib.hid hR
    clear h3 hR hS
    have sx := x.sz
    have ox := x.one
    have sy := y.sz
    have oy := y.one
    go_upto_region 4 with (first
      | (refine wpList_store_row rfl 27 (.tmp 5) (.tmp 10) rfl (b5) (us x.1) rfl rfl _ _ r5 (by rw [sx]; kernel_rfl) (by rw [sx]; rfl) ox ?_)
      | (refine wpList_store_row rfl 27 (.tmp 6) (.tmp 12) rfl (b6) (us y.1) rfl rfl _ _ r6 (by rw [sy]; kernel_rfl) (by rw [sy]; rfl) oy ?_))
    have hga : Grow w ((w3.setRow b5 (us x.1)).setRow b6 (us y.1)) := (H3.out.gro.setRow (by omega) _).setRow (by omega) _
    refine wp_gen (fun W => LHAt w W ka kb ra rb ∧ Blk W b5 27 (us x.1) ∧ Blk W b6 27 (us y.1)) ⟨⟨(H3.out.one.setRow_far (by omega) _).setRow_far (by omega) _, (H3.out.two.setRow_far (by omega) _).setRow_far (by omega) _, hga, HP.out.grow hga⟩, (r5.setRow _).setRow_far hne _, r6.setRow _⟩ ?_
    clear hga r5 r6 H3 HR
    as_aux_lemma =>
    intro w4 h4
    have H4 := Lib.hid h4
    clear h4
    obtain ⟨x', hx'⟩ : ∃ x', x' = x := ⟨_, rfl⟩
    obtain ⟨y', hy'⟩ : ∃ y', y' = y := ⟨_, rfl⟩
    have Q1 := Lib.hid (hx' ▸ p1.out)
    have Q2 := Lib.hid (hy' ▸ p2.out)
    have D1 := Lib.hid (decide_eq_true hx'.symm)
    have D2 := Lib.hid (decide_eq_true hy'.symm)
    have S1 := Lib.hid sx
    have S2 := Lib.hid sy
    clear hx' hy' sx sy ox oy
    refine wp_region_all (fun W => LHAt w W ka kb ra rb ∧ Blk W b5 27 (us x.1) ∧ Blk W b6 27 (us y.1)) (by kernel_rfl) (by kernel_rfl) ⟨H4.out.1.grow (Grow.refl _).drew, H4.out.2.1.drew, H4.out.2.2.drew⟩ ?_
    refine quiet_load_row rfl 27 (.tmp 5) rfl (b5) rfl _ (us x.1) (0, 0) _ (fun W hW => hW.2.1) Tryd.underlying27 rfl (by rw [S1.out]; kernel_rfl) ?_
    simp only [Act.put, List.setIfInBounds_toArray, List.set_cons_zero, List.set_cons_succ]
    refine quiet_load_row rfl THd (.tmp 2) rfl w.heap.size rfl _ (hdC ka ra) (0, 0) _ (fun W hW => hW.1.one) Tryd.underlying29 rfl (hd_row ka ra) ?_
    simp only [Act.put, List.setIfInBounds_toArray, List.set_cons_zero, List.set_cons_succ]
    (refine quiet_at rfl ⟨.agg (us x'.1), fun W hW => ?_, ?_⟩)
    · go_simp; exact (Q1.out _ hW.1.pla).mono (fun e w' h => ⟨h.1, hW.1.grow h.2, hW.2.1.grow h.2, hW.2.2.grow h.2⟩)
    simp only [Act.put, List.setIfInBounds_toArray, List.set_cons_zero, List.set_cons_succ]
    (refine quiet_ex rfl ?_; apply Exists.intro; refine ⟨fun W hW => ?_, ?_⟩)
    · have c := eqin_D x x' W; rw [D1.out] at c; go_simp; try with_reducible rfl
    simp only [Act.put, List.setIfInBounds_toArray, List.set_cons_zero, List.set_cons_succ]
    (refine quiet_ex rfl ?_; apply Exists.intro; refine ⟨fun W hW => ?_, ?_⟩)
    · go_simp; try with_reducible rfl
    simp only [Act.put, List.setIfInBounds_toArray, List.set_cons_zero, List.set_cons_succ]
    refine quiet_load_row rfl 27 (.tmp 6) rfl (b6) rfl _ (us y.1) (0, 0) _ (fun W hW => hW.2.2) Tryd.underlying27 rfl (by rw [S2.out]; kernel_rfl) ?_
    simp only [Act.put, List.setIfInBounds_toArray, List.set_cons_zero, List.set_cons_succ]
    refine quiet_load_row rfl THd (.tmp 3) rfl (w.heap.size + 1) rfl _ (hdC kb rb) (0, 0) _ (fun W hW => hW.1.two) Tryd.underlying29 rfl (hd_row kb rb) ?_
    simp only [Act.put, List.setIfInBounds_toArray, List.set_cons_zero, List.set_cons_succ]
    (refine quiet_at rfl ⟨.agg (us y'.1), fun W hW => ?_, ?_⟩)
    · go_simp; exact (Q2.out _ hW.1.pla).mono (fun e w' h => ⟨h.1, hW.1.grow h.2, hW.2.1.grow h.2, hW.2.2.grow h.2⟩)
    simp only [Act.put, List.setIfInBounds_toArray, List.set_cons_zero, List.set_cons_succ]
    (refine quiet_ex rfl ?_; apply Exists.intro; refine ⟨fun W hW => ?_, ?_⟩)
    · have c := eqin_D y y' W; rw [D2.out] at c; go_simp; try with_reducible rfl
    simp only [Act.put, List.setIfInBounds_toArray, List.set_cons_zero, List.set_cons_succ]
    (refine quiet_ex rfl ?_; apply Exists.intro; refine ⟨fun W hW => ?_, ?_⟩)
    · go_simp; try with_reducible rfl
    simp only [Act.put, List.setIfInBounds_toArray, List.set_cons_zero, List.set_cons_succ]
    refine wpQuiet_nil ?_
    intro w5 h5
    have H5 := Lib.hid h5
    clear h5
    have c0 := hdC_get0 ka ra
    have c1 := hdC_get0 kb rb
    have c2 := hdC_root ka ra
    have c3 := hdC_root kb rb
    have e9 := fun W => eqin_D9 ra rb W
    have eD := fun W => eql_D x y W
    have hB1 := H5.out.1.one
    have hB2 := H5.out.1.two
    have hB3 := H5.out.2.1
    have hB4 := H5.out.2.2
    have sx := S1.out
    have sy := S2.out
    by_cases hk : ka = kb
    · have tk : (ka == kb) = true := by simpa using hk
      by_cases hr : ra = rb
      · rw [decide_eq_true hr] at e9
        rw [decide_eq_true (Hx.out hk hr)] at eD
        clear hk hr
        as_aux_lemma =>
        go_wp2_with (first
          | (refine wpList_load_row_g rfl THd (.tmp 2) rfl w.heap.size rfl _ (hdC ka ra) (0, 0) _ hB1 Tryd.underlying29 rfl (hd_row ka ra) ?_)
          | (refine wpList_load_row_g rfl THd (.tmp 3) rfl (w.heap.size + 1) rfl _ (hdC kb rb) (0, 0) _ hB2 Tryd.underlying29 rfl (hd_row kb rb) ?_)
          | (refine wpList_load_row_g rfl 27 (.tmp 5) rfl (b5) rfl _ (us x.1) (0, 0) _ hB3 Tryd.underlying27 rfl (by rw [sx]; kernel_rfl) ?_)
          | (refine wpList_load_row_g rfl 27 (.tmp 6) rfl (b6) rfl _ (us y.1) (0, 0) _ hB4 Tryd.underlying27 rfl (by rw [sy]; kernel_rfl) ?_))
        go_ret
        exact ⟨rfl, H5.out.1.gro⟩
      · rw [decide_eq_false hr] at e9
        clear hk hr eD
        as_aux_lemma =>
        go_wp2_with (first
          | (refine wpList_load_row_g rfl THd (.tmp 2) rfl w.heap.size rfl _ (hdC ka ra) (0, 0) _ hB1 Tryd.underlying29 rfl (hd_row ka ra) ?_)
          | (refine wpList_load_row_g rfl THd (.tmp 3) rfl (w.heap.size + 1) rfl _ (hdC kb rb) (0, 0) _ hB2 Tryd.underlying29 rfl (hd_row kb rb) ?_))
        go_ret
        exact ⟨rfl, H5.out.1.gro⟩
    · have tk : (ka == kb) = false := by simpa using hk
      clear hk eD e9
      as_aux_lemma =>
      go_wp2_with (first
        | (refine wpList_load_row_g rfl THd (.tmp 2) rfl w.heap.size rfl _ (hdC ka ra) (0, 0) _ hB1 Tryd.underlying29 rfl (hd_row ka ra) ?_)
        | (refine wpList_load_row_g rfl THd (.tmp 3) rfl (w.heap.size + 1) rfl _ (hdC kb rb) (0, 0) _ hB2 Tryd.underlying29 rfl (hd_row kb rb) ?_))
      go_ret
      exact ⟨rfl, H5.out.1.gro⟩
  · refine wpOp_alloc (some 6) 27 (us D.zero.1) rfl rfl rfl (by go_simp; rfl) ⟨hW.grow ((Grow.refl _).alloc (Nat.le_refl _) _), (fun x => Blk x W.heap.size 27 (us D.zero.1)), Stab.blk _ _ _, Blk.new _ _ _, ?_⟩
    obtain ⟨b6, hb6⟩ : ∃ b, b = W.heap.size := ⟨_, rfl⟩
    have hlb6 : w.heap.size + 1 < b6 := hb6 ▸ hW.two.lt
    rw [← hb6]
    clear hb6 hW
    simp only [Act.put, List.setIfInBounds_toArray, List.set_cons_zero, List.set_cons_succ]
    have hS2 : Stab (fun x => Blk x b6 27 (us D.zero.1)) := fun _ _ h g => h.grow g
    refine anyC_alloc (i := 4) (some 5) rfl rfl (by kernel_rfl) hS2 27 (us D.zero.1) rfl (fun W => by go_simp; rfl) (fun W hW => hW.grow ((Grow.refl _).alloc (Nat.le_refl _) _)) ?_
    intro b5 hg
    obtain ⟨wg, hwg, hwr, hgs⟩ := hg
    have hlb5 : w.heap.size + 1 < b5 := hgs ▸ hwg.two.lt
    have hne : b5 ≠ b6 := by have := hwr.lt; omega
    clear hwg hwr hgs hS2
    refine anyC_weaken (R2 := fun x => Blk x b5 27 (us D.zero.1) ∧ Blk x b6 27 (us D.zero.1)) (fun x hx => ⟨hx.2, hx.1⟩) ?_
    simp only [Act.put, List.setIfInBounds_toArray, List.set_cons_zero, List.set_cons_succ]
    refine anyC_tail_lit (by kernel_rfl) (fun w3 h3 hR => ?_)
    simp only [List.drop_succ_cons, List.drop_zero]
    have r5 := hR.1
    have r6 := hR.2.setRow_far (g' := b5) (Ne.symm hne) (us x.1)
    have H3 := Lib.hid h3
    have HR := Lib.hid hR
    clear h3 hR hS
    have sx := x.sz
    have ox := x.one
    have sy := y.sz
    have oy := y.one
    go_upto_region 4 with (first
      | (refine wpList_store_row rfl 27 (.tmp 5) (.tmp 10) rfl (b5) (us x.1) rfl rfl _ _ r5 (by rw [sx]; kernel_rfl) (by rw [sx]; rfl) ox ?_)
      | (refine wpList_store_row rfl 27 (.tmp 6) (.tmp 12) rfl (b6) (us y.1) rfl rfl _ _ r6 (by rw [sy]; kernel_rfl) (by rw [sy]; rfl) oy ?_))
    have hga : Grow w ((w3.setRow b5 (us x.1)).setRow b6 (us y.1)) := (H3.out.gro.setRow (by omega) _).setRow (by omega) _
    refine wp_gen (fun W => LHAt w W ka kb ra rb ∧ Blk W b5 27 (us x.1) ∧ Blk W b6 27 (us y.1)) ⟨⟨(H3.out.one.setRow_far (by omega) _).setRow_far (by omega) _, (H3.out.two.setRow_far (by omega) _).setRow_far (by omega) _, hga, HP.out.grow hga⟩, (r5.setRow _).setRow_far hne _, r6.setRow _⟩ ?_
    clear hga r5 r6 H3 HR
    as_aux_lemma =>
    intro w4 h4
    have H4 := Lib.hid h4
    clear h4
    obtain ⟨x', hx'⟩ : ∃ x', x' = x := ⟨_, rfl⟩
    obtain ⟨y', hy'⟩ : ∃ y', y' = y := ⟨_, rfl⟩
    have Q1 := Lib.hid (hx' ▸ p1.out)
    have Q2 := Lib.hid (hy' ▸ p2.out)
    have D1 := Lib.hid (decide_eq_true hx'.symm)
    have D2 := Lib.hid (decide_eq_true hy'.symm)
    have S1 := Lib.hid sx
    have S2 := Lib.hid sy
    clear hx' hy' sx sy ox oy
    refine wp_region_all (fun W => LHAt w W ka kb ra rb ∧ Blk W b5 27 (us x.1) ∧ Blk W b6 27 (us y.1)) (by kernel_rfl) (by kernel_rfl) ⟨H4.out.1.grow (Grow.refl _).drew, H4.out.2.1.drew, H4.out.2.2.drew⟩ ?_
    refine quiet_load_row rfl 27 (.tmp 5) rfl (b5) rfl _ (us x.1) (0, 0) _ (fun W hW => hW.2.1) Tryd.underlying27 rfl (by rw [S1.out]; kernel_rfl) ?_
    simp only [Act.put, List.setIfInBounds_toArray, List.set_cons_zero, List.set_cons_succ]
    refine quiet_load_row rfl THd (.tmp 2) rfl w.heap.size rfl _ (hdC ka ra) (0, 0) _ (fun W hW => hW.1.one) Tryd.underlying29 rfl (hd_row ka ra) ?_
    simp only [Act.put, List.setIfInBounds_toArray, List.set_cons_zero, List.set_cons_succ]
    (refine quiet_at rfl ⟨.agg (us x'.1), fun W hW => ?_, ?_⟩)
    · go_simp; exact (Q1.out _ hW.1.pla).mono (fun e w' h => ⟨h.1, hW.1.grow h.2, hW.2.1.grow h.2, hW.2.2.grow h.2⟩)
    simp only [Act.put, List.setIfInBounds_toArray, List.set_cons_zero, List.set_cons_succ]
    (refine quiet_ex rfl ?_; apply Exists.intro; refine ⟨fun W hW => ?_, ?_⟩)
    · have c := eqin_D x x' W; rw [D1.out] at c; go_simp; try with_reducible rfl
    simp only [Act.put, List.setIfInBounds_toArray, List.set_cons_zero, List.set_cons_succ]
    (refine quiet_ex rfl ?_; apply Exists.intro; refine ⟨fun W hW => ?_, ?_⟩)
    · go_simp; try with_reducible rfl
    simp only [Act.put, List.setIfInBounds_toArray, List.set_cons_zero, List.set_cons_succ]
    refine quiet_load_row rfl 27 (.tmp 6) rfl (b6) rfl _ (us y.1) (0, 0) _ (fun W hW => hW.2.2) Tryd.underlying27 rfl (by rw [S2.out]; kernel_rfl) ?_
    simp only [Act.put, List.setIfInBounds_toArray, List.set_cons_zero, List.set_cons_succ]
    refine quiet_load_row rfl THd (.tmp 3) rfl (w.heap.size + 1) rfl _ (hdC kb rb) (0, 0) _ (fun W hW => hW.1.two) Tryd.underlying29 rfl (hd_row kb rb) ?_
    simp only [Act.put, List.setIfInBounds_toArray, List.set_cons_zero, List.set_cons_succ]
    (refine quiet_at rfl ⟨.agg (us y'.1), fun W hW => ?_, ?_⟩)
    · go_simp; exact (Q2.out _ hW.1.pla).mono (fun e w' h => ⟨h.1, hW.1.grow h.2, hW.2.1.grow h.2, hW.2.2.grow h.2⟩)
    simp only [Act.put, List.setIfInBounds_toArray, List.set_cons_zero, List.set_cons_succ]
    (refine quiet_ex rfl ?_; apply Exists.intro; refine ⟨fun W hW => ?_, ?_⟩)
    · have c := eqin_D y y' W; rw [D2.out] at c; go_simp; try with_reducible rfl
    simp only [Act.put, List.setIfInBounds_toArray, List.set_cons_zero, List.set_cons_succ]
    (refine quiet_ex rfl ?_; apply Exists.intro; refine ⟨fun W hW => ?_, ?_⟩)
    · go_simp; try with_reducible rfl
    simp only [Act.put, List.setIfInBounds_toArray, List.set_cons_zero, List.set_cons_succ]
    refine wpQuiet_nil ?_
    intro w5 h5
    have H5 := Lib.hid h5
    clear h5
    have c0 := hdC_get0 ka ra
    have c1 := hdC_get0 kb rb
    have c2 := hdC_root ka ra
    have c3 := hdC_root kb rb
    have e9 := fun W => eqin_D9 ra rb W
    have eD := fun W => eql_D x y W
    have hB1 := H5.out.1.one
    have hB2 := H5.out.1.two
    have hB3 := H5.out.2.1
    have hB4 := H5.out.2.2
    have sx := S1.out
    have sy := S2.out
    by_cases hk : ka = kb
    · have tk : (ka == kb) = true := by simpa using hk
      by_cases hr : ra = rb
      · rw [decide_eq_true hr] at e9
        rw [decide_eq_true (Hx.out hk hr)] at eD
        clear hk hr
        as_aux_lemma =>
        go_wp2_with (first
          | (refine wpList_load_row_g rfl THd (.tmp 2) rfl w.heap.size rfl _ (hdC ka ra) (0, 0) _ hB1 Tryd.underlying29 rfl (hd_row ka ra) ?_)
          | (refine wpList_load_row_g rfl THd (.tmp 3) rfl (w.heap.size + 1) rfl _ (hdC kb rb) (0, 0) _ hB2 Tryd.underlying29 rfl (hd_row kb rb) ?_)
          | (refine wpList_load_row_g rfl 27 (.tmp 5) rfl (b5) rfl _ (us x.1) (0, 0) _ hB3 Tryd.underlying27 rfl (by rw [sx]; kernel_rfl) ?_)
          | (refine wpList_load_row_g rfl 27 (.tmp 6) rfl (b6) rfl _ (us y.1) (0, 0) _ hB4 Tryd.underlying27 rfl (by rw [sy]; kernel_rfl) ?_))
        go_ret
        exact ⟨rfl, H5.out.1.gro⟩
      · rw [decide_eq_false hr] at e9
        clear hk hr eD
        as_aux_lemma =>
        go_wp2_with (first
          | (refine wpList_load_row_g rfl THd (.tmp 2) rfl w.heap.size rfl _ (hdC ka ra) (0, 0) _ hB1 Tryd.underlying29 rfl (hd_row ka ra) ?_)
          | (refine wpList_load_row_g rfl THd (.tmp 3) rfl (w.heap.size + 1) rfl _ (hdC kb rb) (0, 0) _ hB2 Tryd.underlying29 rfl (hd_row kb rb) ?_))
        go_ret
        exact ⟨rfl, H5.out.1.gro⟩
    · have tk : (ka == kb) = false := by simpa using hk
      clear hk eD e9
      as_aux_lemma =>
      go_wp2_with (first
        | (refine wpList_load_row_g rfl THd (.tmp 2) rfl w.heap.size rfl _ (hdC ka ra) (0, 0) _ hB1 Tryd.underlying29 rfl (hd_row ka ra) ?_)
        | (refine wpList_load_row_g rfl THd (.tmp 3) rfl (w.heap.size + 1) rfl _ (hdC kb rb) (0, 0) _ hB2 Tryd.underlying29 rfl (hd_row kb rb) ?_))
      go_ret
      exact ⟨rfl, H5.out.1.gro⟩
end Go.Proofs.YtamllmoakgnjoaaDoor
