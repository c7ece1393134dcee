/- seedcornref05.Sign and Same: the signature's values, in a row of its own; equal ones are the same. -/
import Derived.Test.YtjokaennipmmaaaDoorRPub
namespace Go.Proofs.YtjokaennipmmaaaDoor
open Go.RowKit
structure RSgAt (w wr : World) (gs cs : Nat) (seed msg : D) : Prop where
  box : Blk wr w.heap.size 30 (us seed.1)
  st : wr.ownsRow 0 3 1 (.slice (some ⟨gs, 0, none⟩) 35 cs) 35 (ints (stepsE msg))
  gro : Grow w wr
theorem RSgAt.grow {w wr w' : World} {gs cs : Nat} {seed msg : D} (h : RSgAt w wr gs cs seed msg) (hg : Grow wr w') : RSgAt w w' gs cs seed msg :=
  ⟨h.box.grow hg, ownsRow_grow h.st hg, h.gro.tr hg⟩
set_option maxRecDepth 100000 in
set_option maxHeartbeats 2000000 in
theorem rsig_c (seed msg : D) (w : World) :
    Calls Tryd.prog 33 #[.agg (us seed.1), .agg (us msg.1)] w fun e w' => ∃ v, e = .returned v ∧ w'.ownsRow w.heap.size 30 4 v 35 (dcells (signE seed msg)) ∧ Grow w w' := by
  go_enter Tryd.func33, Tryd.ntmps33
  go_upto_region 1 with (fail)
  refine wp_gen (fun W => Blk W w.heap.size 30 (us seed.1) ∧ Blk W (w.heap.size + 1) 30 (us msg.1) ∧ Grow w W) ⟨(Blk.new _ _ _).alloc _, Blk.new1 _ _ _ _, ((Below.refl w.heap.size w).alloc (Nat.le_refl _) _).alloc (by simp) _⟩ ?_
  intro w1 h1
  have H1 := Lib.hid h1
  have hM := h1.2.1
  have sm := msg.sz
  clear h1
  go_wp2_with (refine wpList_load_row_g rfl 30 (.tmp 3) rfl (w.heap.size + 1) rfl _ (us msg.1) (0, 0) _ hM Tryd.underlying30 rfl (by rw [sm]; kernel_rfl) ?_)
  clear hM
  refine (rsteps_c msg _).mono ?_
  rintro e w3 ⟨vs, rfl, hs, hg⟩
  obtain ⟨gs, cs, rfl, -, -, -, -⟩ := own_ints hs (by omega)
  have H3 := Lib.hid (RSgAt.mk (H1.out.1.grow hg) (ownsRow_base hs (Nat.zero_le _)) (H1.out.2.2.tr hg) : RSgAt w w3 gs cs seed msg)
  clear hs hg
  have s1 := Lib.hid seed.sz
  have R0 := Lib.hid (World.ownsRow_nil w3 w3.heap.size 30 4)
  go_wp2_with fail
  go_loopw [6, 7] (fun v i wr => ∃ j : Nat, j ≤ 35 ∧ i = .int .i64 j ∧ wr.ownsRow w3.heap.size 30 4 v j (dcells (signTo seed msg j)) ∧ Grow w3 wr) (fun _ i _ => 35 - (intOf i).toNat)
  case atStart => exact ⟨0, by omega, rfl, R0.out, Grow.refl _⟩
  case round =>
    obtain ⟨j, hj, rfl, hO, hN⟩ := hrel
    have HO := Lib.hid hO
    have HN := Lib.hid hN
    clear hO hN R0
    by_cases hlt : j < 35
    · have hj1 : decide ((j : Int) < 35) = true := by simp; omega
      have b1 : (0 : Int) ≤ j := by omega
      have b2 : (j : Int) < 35 := by omega
      have hcell := Lib.hid (fun W (hW : Grow w3 W) => own_ints_lit H3.out.st (by omega) W hW j hlt)
      have hdl := stepsE_getD_lt msg j
      have Hsu := Lib.hid (signTo_succ seed msg j)
      generalize (stepsE msg).getD j 0 = d at *
      have rb := Lib.hid (fun W => rbegin_c seed j W (by omega))
      generalize beginE seed j = z at *
      have rw_ := Lib.hid (fun W => rwalk_c z d W (by omega))
      generalize walkE z d = y at *
      generalize hsg : signTo seed msg j = l at *
      clear hsg
      go_upto_region 6 with (fail)
      refine wp_region_anyR 11 (fun W => Grow w3 W) (fun W => W.ownsRow w3.heap.size 30 4 u6 j (dcells l)) (by kernel_rfl) (by kernel_rfl) HN.out.drew (ownsRow_grow HO.out (Grow.refl _).drew) ?_
      have hS : Stab (fun W => W.ownsRow w3.heap.size 30 4 u6 j (dcells l)) := fun _ _ h g => ownsRow_grow h g
      (refine anyC_val (i := 0) (some 14) rfl rfl (by kernel_rfl) (fun _ _ _ _ h => h) (by assumption) rfl ?_; apply Exists.intro; refine ⟨fun W hW => ?_, ?_⟩)
      · go_simp; try with_reducible rfl
      simp only [Act.put, List.setIfInBounds_toArray, List.set_cons_zero, List.set_cons_succ]
      refine anyC_load_row (i := 1) (some 15) rfl rfl (by kernel_rfl) (by assumption) rfl 30 (.tmp 2) rfl (w.heap.size) rfl _ ((us seed.1)) (0, 0) _ (fun W hW => H3.out.box.grow hW) Tryd.underlying30 rfl (by rw [s1.out]; kernel_rfl) (fun _ _ _ h => h) ?_
      simp only [Act.put, List.setIfInBounds_toArray, List.set_cons_zero, List.set_cons_succ]
      (refine anyC_val (i := 2) (some 16) rfl rfl (by kernel_rfl) (fun _ _ _ _ h => h) (by assumption) rfl ?_; apply Exists.intro; refine ⟨fun W hW => ?_, ?_⟩)
      · go_simp; try with_reducible rfl
      simp only [Act.put, List.setIfInBounds_toArray, List.set_cons_zero, List.set_cons_succ]
      (refine anyC_call (i := 3) (some 17) (.agg (us z.1)) rfl rfl (by kernel_rfl) (fun _ _ _ h => h) (by assumption) rfl (fun W hW => ?_) ?_)
      · go_simp; exact (rb.out _).mono (fun e w' h => ⟨h.1, hW.tr h.2, h.2⟩)
      simp only [Act.put, List.setIfInBounds_toArray, List.set_cons_zero, List.set_cons_succ]
      (refine anyC_val (i := 4) (some 18) rfl rfl (by kernel_rfl) (fun _ _ _ _ h => h) (by assumption) rfl ?_; apply Exists.intro; refine ⟨fun W hW => ?_, ?_⟩)
      · go_simp; try with_reducible rfl
      simp only [Act.put, List.setIfInBounds_toArray, List.set_cons_zero, List.set_cons_succ]
      (refine anyC_val (i := 5) (some 19) rfl rfl (by kernel_rfl) (fun _ _ _ _ h => h) (by assumption) rfl ?_; apply Exists.intro; refine ⟨fun W hW => ?_, ?_⟩)
      · go_simp; try with_reducible rfl
      simp only [Act.put, List.setIfInBounds_toArray, List.set_cons_zero, List.set_cons_succ]
      (refine anyC_val (i := 6) (some 20) rfl rfl (by kernel_rfl) (fun _ _ _ _ h => h) (by assumption) rfl ?_; apply Exists.intro; refine ⟨fun W hW => ?_, ?_⟩)
      · go_simp; try with_reducible rfl
      simp only [Act.put, List.setIfInBounds_toArray, List.set_cons_zero, List.set_cons_succ]
      (refine anyC_val (i := 7) (some 21) rfl rfl (by kernel_rfl) (fun _ _ _ _ h => h) (by assumption) rfl ?_; apply Exists.intro; refine ⟨fun W hW => ?_, ?_⟩)
      · have c := hcell.out W hW; go_simp; try with_reducible rfl
      simp only [Act.put, List.setIfInBounds_toArray, List.set_cons_zero, List.set_cons_succ]
      (refine anyC_call (i := 8) (some 22) (.agg (us y.1)) rfl rfl (by kernel_rfl) (fun _ _ _ h => h) (by assumption) rfl (fun W hW => ?_) ?_)
      · go_simp; exact (rw_.out _).mono (fun e w' h => ⟨h.1, hW.tr h.2, h.2⟩)
      simp only [Act.put, List.setIfInBounds_toArray, List.set_cons_zero, List.set_cons_succ]
      refine anyC_one (i := 9) (by kernel_rfl) (fun W hW hR => ?_)
      refine wpOp_of_list rfl (fun Q' hK => ?_)
      refine wpList_buildSlice_D rfl 39 30 (.tmp 22) rfl #[.int .u32 0, .int .u32 0, .int .u32 0, .int .u32 0] 16 rfl Tryd.underlying39 info_D y rfl ?_
      have ha : Grow W _ := Below.alloc (Grow.refl W) (Nat.le_refl _) (Obj.cells (y.1.map u).toArray 30)
      obtain ⟨b0, hb0⟩ : ∃ b, b = W.heap.size := ⟨_, rfl⟩
      have hbk : Blk (W.alloc (Obj.cells (y.1.map u).toArray 30)) b0 30 (y.1.map u).toArray := hb0 ▸ Blk.new _ _ _
      refine hK _ _ ⟨hW.tr ha, (fun x => x.ownsRow w3.heap.size 30 4 u6 j (dcells l) ∧ Blk x b0 30 (y.1.map u).toArray), (fun _ _ h g => ⟨ownsRow_grow h.1 g, h.2.grow g⟩), ⟨ownsRow_grow hR ha, hbk⟩, ?_⟩
      rw [← hb0]
      clear hb0 hW hR ha hbk hK
      simp only [Act.put, List.setIfInBounds_toArray]
      refine anyC_one (i := 10) (by kernel_rfl) (fun W2 hW2 hR2 => ?_)
      refine wpOp_of_list rfl (fun Q' hK => ?_)
      refine wpList_append_blk rfl (.tmp 14) (.tmp 23) 39 rfl w3.heap.size 30 (.agg #[.int .u32 0, .int .u32 0, .int .u32 0, .int .u32 0]) 4 16 Tryd.underlying39 info_D rfl (by omega) _ j _ rfl hR2.1 b0 1 1 (y.1.map u) rfl hR2.2 (by simp [y.2]) (us_news y) (by simp only [maxLen]; omega) (by omega) hW2.size ?_
      intro v' w4 hown' hbel' _
      refine hK _ _ ⟨Below.trans hW2 hbel', (fun x => x.ownsRow w3.heap.size 30 4 v' (j + 1) (dcells l ++ y.1.map u)), (fun _ _ h g => ownsRow_grow h g), hown', ?_⟩
      clear hbel' hown' hR2 hW2 hK
      simp only [Act.put]
      refine anyC_tail_lit (by kernel_rfl) (fun w5 h5 hR => ?_)
      simp only [List.drop_succ_cons, List.drop_zero]
      go_wp2_with fail
      go_roundw
      case rel => exact ⟨j + 1, by omega, by go_num, by rw [Hsu.out, dcells_append, dcells_one]; exact hR, h5⟩
      case measure => simp [intOf]; omega
    · have e8 : j = 35 := by omega
      subst e8
      go_wp2_with fail
      go_ret
      exact ⟨_, rfl, ownsRow_base HO.out H3.out.gro.size, H3.out.gro.tr HN.out⟩
end Go.Proofs.YtjokaennipmmaaaDoor
