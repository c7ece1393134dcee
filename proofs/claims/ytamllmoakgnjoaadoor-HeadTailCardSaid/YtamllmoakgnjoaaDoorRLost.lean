/- seedcornref43.Lost: has a store lost what a head says? -/
import Derived.Test.YtamllmoakgnjoaaDoorHead
namespace Go.Proofs.YtamllmoakgnjoaaDoor
open Go.RowKit
set_option maxRecDepth 100000 in
set_option maxHeartbeats 4000000 in
theorem rlost_c (A : Option Addr) (n c : Nat) (ss : List ByteArray) (k : Int) (r : D) (w : World) (hk1 : -9223372036854775808 ≤ k) (hk2 : k ≤ 9223372036854775807) (hn : n ≤ 1000000) (hsm : small ss) (hP : Places w) (hs : SlS w A n c ss) :
    Calls Tryd.prog 24 #[.agg #[.slice A n c], .agg (hdC k r)] w fun e w' => e = .returned (.int .i64 (lostE ss k r)) ∧ Grow w w' := by
  have HS0 := Lib.hid (LoAt.new hs hP : LoAt w _ A n c ss k r)
  have HM := Lib.hid hsm
  have HL := Lib.hid hs.2.2.1
  clear hs hP hsm
  by_cases hneg : k < 0
  · have hlo : lostE ss k r = 1 := by unfold lostE; rw [if_pos hneg]
    have Hlo := Lib.hid hlo
    have t1 : decide (k < 0) = true := decide_eq_true hneg
    clear hlo hneg
    go_enter Tryd.func24, Tryd.ntmps24
    go_upto_region 1 with (fail)
    refine wp_gen (fun W => LoAt w W A n c ss k r) HS0.out ?_
    clear HS0
    intro w1 h1
    have c1 := (h1.hd.cell 0).trans (hdC_get0 k r)
    have H1 := Lib.hid h1
    clear h1
    go_wp2_with fail
    go_ret
    exact ⟨by rw [Hlo.out]; rfl, H1.out.st.gro⟩
  · obtain ⟨kn, rfl⟩ : ∃ kn : Nat, k = (kn : Int) := ⟨k.toNat, by omega⟩
    have t1 : decide ((kn : Int) < 0) = false := by simp
    by_cases hgt : n < kn
    · have hlo : lostE ss kn r = 6 := by unfold lostE; rw [if_neg (by omega), if_pos (by rw [HL.out]; omega)]
      have Hlo := Lib.hid hlo
      have t2 : decide (n < kn) = true := by simpa using hgt
      have t3 : decide ((n : Int) < (kn : Int)) = true := by simpa using hgt
      clear hlo hneg hgt
      go_enter Tryd.func24, Tryd.ntmps24
      go_upto_region 1 with (fail)
      refine wp_gen (fun W => LoAt w W A n c ss kn r) HS0.out ?_
      clear HS0
      intro w1 h1
      have c1 := (h1.hd.cell 0).trans (hdC_get0 kn r)
      have c2 := h1.st.box.cell 0
      have H1 := Lib.hid h1
      clear h1
      go_wp2_with fail
      go_ret
      exact ⟨by rw [Hlo.out]; rfl, H1.out.st.gro⟩
    · have hlo : lostE ss kn r = if rootE noneE (digsE (ss.take kn)) = r then 0 else 8 := by unfold lostE; rw [if_neg (by omega), if_neg (by rw [HL.out]; omega)]; rfl
      have Hlo := Lib.hid hlo
      have t2 : decide (n < kn) = false := by simpa using hgt
      have t3 : decide ((n : Int) < (kn : Int)) = false := by simpa using hgt
      have hkn : kn ≤ n := by omega
      clear hlo hneg hgt
      go_enter Tryd.func24, Tryd.ntmps24
      go_upto_region 1 with (fail)
      refine wp_gen (fun W => LoAt w W A n c ss kn r) HS0.out ?_
      clear HS0
      intro w1 h1
      have c1 := (h1.hd.cell 0).trans (hdC_get0 kn r)
      have c2 := h1.st.box.cell 0
      have H1 := Lib.hid h1
      clear h1
      go_upto_region 5 with (fail)
      clear c1 c2 t2 t3
      have Hdt := Lib.hid (show digsE (ss.take kn) = (digsE ss).take kn by unfold digsE; rw [List.map_take])
      rw [Hdt.out] at Hlo
      refine wp_region_anyC 8 (fun W => LoAt w W A n c ss kn r) (by kernel_rfl) (by kernel_rfl) (H1.out.grow (Grow.refl _).drew) ?_
      have hS := Stab.true_
      refine anyC_load_row (i := 0) (some 14) rfl rfl (by kernel_rfl) (by assumption) rfl TSt (.tmp 2) rfl w.heap.size rfl _ #[.slice A n c] (0, 0) _ (fun W hW => hW.st.box) Tryd.underlying24 rfl (st_row A n c) (fun _ _ _ h => h) ?_
      simp only [Act.put, List.setIfInBounds_toArray, List.set_cons_zero, List.set_cons_succ]
      (refine anyC_val (i := 2) (some 16) rfl rfl (by kernel_rfl) (fun _ _ _ _ h => h) (by assumption) rfl ?_; apply Exists.intro; refine ⟨fun W hW => ?_, ?_⟩)
      · go_simp; try with_reducible rfl
      simp only [Act.put, List.setIfInBounds_toArray, List.set_cons_zero, List.set_cons_succ]
      (refine anyC_val (i := 3) (some 17) rfl rfl (by kernel_rfl) (fun _ _ _ _ h => h) (by assumption) rfl ?_; apply Exists.intro; refine ⟨fun W hW => ?_, ?_⟩)
      · have cc := (hW.hd.cell 0).trans (hdC_get0 kn r); go_simp; try with_reducible rfl
      simp only [Act.put, List.setIfInBounds_toArray, List.set_cons_zero, List.set_cons_succ]
      (refine anyC_val (i := 6) (some 20) rfl rfl (by kernel_rfl) (fun _ _ _ _ h => h) (by assumption) rfl ?_; apply Exists.intro; refine ⟨fun W hW => ?_, ?_⟩)
      · go_simp; try with_reducible rfl
      simp only [Act.put, List.setIfInBounds_toArray, List.set_cons_zero, List.set_cons_succ]
      (refine anyC_val (i := 7) (some 21) rfl rfl (by kernel_rfl) (fun _ _ _ _ h => h) (by assumption) rfl ⟨_, fun W hW => run_load_D 27 (.tmp 20) rfl (w.heap.size + 1) 1 rfl r (fun k hk => (hW.hd.cell (1 + k)).trans (hdC_get kn r k hk)) _ Tryd.underlying27 hi_D, ?_⟩)
      simp only [Act.put, List.setIfInBounds_toArray, List.set_cons_zero, List.set_cons_succ]
      refine anyC_one (i := 1) (by kernel_rfl) (fun W hW _ => ?_)
      refine wpOp_call (some 15) rfl rfl rfl (by go_simp) ((rdigests_c A n c ss _ hn HM.out hW.st.pla hW.st.sl).mono ?_)
      rintro e w2 ⟨v, rfl, ho, hg2⟩
      obtain ⟨A2, c2, rfl, hs2⟩ := SlD.of_own ho
      have hnc2 : n ≤ c2 := hs2.1
      refine ⟨_, rfl, hW.grow hg2, (fun x => SlD x A2 n c2 (digsE ss)), (fun _ _ h g => h.grow g), hs2, ?_⟩
      clear ho hs2 hg2 hW
      have hS : Stab (fun x => SlD x A2 n c2 (digsE ss)) := fun _ _ h g => h.grow g
      have hkc2 : kn ≤ c2 := by omega
      simp only [Act.put, List.setIfInBounds_toArray, List.set_cons_zero, List.set_cons_succ]
      (refine anyC_val (i := 4) (some 18) rfl rfl (by kernel_rfl) (fun _ _ _ _ h => h) (by assumption) rfl ?_; apply Exists.intro; refine ⟨fun W hW => ?_, ?_⟩)
      · go_simp; try with_reducible rfl
      simp only [Act.put, List.setIfInBounds_toArray, List.set_cons_zero, List.set_cons_succ]
      refine anyC_one (i := 5) (by kernel_rfl) (fun W hW hR => ?_)
      refine wpOp_call (some 19) rfl rfl rfl (by go_simp) ((rroot_c kn kn (Nat.le_refl _) (by omega) A2 c2 ((digsE ss).take kn) W hW.st.pla (hR.take kn c2 hkn hkc2 hR.2.1)).mono ?_)
      rintro e w3 ⟨rfl, hg3⟩
      refine ⟨_, rfl, hW.grow hg3, (fun _ => True), Stab.true_, trivial, ?_⟩
      clear hR hg3 hW
      simp only [Act.put, List.setIfInBounds_toArray, List.set_cons_zero, List.set_cons_succ]
      refine anyC_tail_lit (by kernel_rfl) (fun w4 h4 _ => ?_)
      simp only [List.drop_succ_cons, List.drop_zero]
      generalize rootE noneE ((digsE ss).take kn) = y at *
      obtain ⟨bb, hbb⟩ : ∃ bb, bb = decide (y = r) := ⟨_, rfl⟩
      have Hbb := Lib.hid hbb
      have hq := fun W => neq_D y r W
      rw [← hbb] at hq
      clear hbb
      have G4 := Lib.hid h4.st.gro
      clear h4
      cases bb
      · have hf := of_decide_eq_false Hbb.out.symm
        have Hf := Lib.hid (show lostE ss kn r = 8 by rw [Hlo.out, if_neg hf])
        clear hf
        go_wp2_with fail
        go_ret
        exact ⟨by rw [Hf.out]; rfl, G4.out⟩
      · have hf := of_decide_eq_true Hbb.out.symm
        have Hf := Lib.hid (show lostE ss kn r = 0 by rw [Hlo.out, if_pos hf])
        clear hf
        go_wp2_with fail
        go_ret
        exact ⟨by rw [Hf.out]; rfl, G4.out⟩
end Go.Proofs.YtamllmoakgnjoaaDoor
