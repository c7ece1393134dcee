/- The reference's Pair: what it returns is what the plain function pairD gives; the heap only grows. -/
import Derived.Test.YtamllmoakgnjoaaDoorRTake
namespace Go.Proofs.YtamllmoakgnjoaaDoor
open Go.RowKit
structure RPairAt (w wr : World) (a b : List UInt32) : Prop where
  one : Blk wr w.heap.size 27 (us a)
  two : Blk wr (w.heap.size + 1) 27 (us b)
  res : Blk wr (w.heap.size + 1 + 1) 27 (us [0, 0, 0, 0])
  bel : Below w.heap.size w wr
theorem RPairAt.grow {w wr w' : World} {a b : List UInt32} (h : RPairAt w wr a b) (hg : Grow wr w') : RPairAt w w' a b :=
  ⟨h.one.grow hg, h.two.grow hg, h.res.grow hg, below_tr h.bel hg h.bel.size⟩
set_option maxHeartbeats 1000000 in
theorem rpair_any (a b : List UInt32) (ha : a.length = 4) (hb : b.length = 4) (w : World) :
    Calls Tryd.prog 46 #[.agg (us a), .agg (us b)] w fun e w' => e = .returned (.agg (us (pairD a b))) ∧ Grow w w' := by
  have hsa : (us a).size = 4 := by simp [us, ha]
  have hsb : (us b).size = 4 := by simp [us, hb]
  have Hsa := Lib.hid hsa
  have Hsb := Lib.hid hsb
  have Ha := Lib.hid ha
  have Hb := Lib.hid hb
  clear ha hb hsa hsb
  go_enter Tryd.func46, Tryd.ntmps46
  go_upto_region 1 with (fail)
  refine wp_gen (fun W => RPairAt w W a b) ?_ ?_
  · have hb := (((Below.refl w.heap.size w).alloc (Nat.le_refl _) (.cells (us a) 27)).alloc (by simp) (.cells (us b) 27)).alloc (by simp; omega) (.cells (us [0, 0, 0, 0]) 27)
    exact ⟨((Blk.new _ _ _).alloc _).alloc _, (Blk.new1 _ _ _ _).alloc _, Blk.new2 _ _ _ _ _, hb⟩
  intro w1 hT
  have HT := Lib.hid hT
  clear hT
  have l1 : (takeIn [2, 0, 0, 0, 0, 0, 0, 0] a).length = 8 := takeIn_length _ _
  have l2 : (takeIn (takeIn [2, 0, 0, 0, 0, 0, 0, 0] a) b).length = 8 := (takeIn_length _ _).trans l1
  have L1 := Lib.hid l1
  have L2 := Lib.hid l2
  clear l1 l2
  refine wp_region_anyC 6 (fun W => RPairAt w W a b) (by kernel_rfl) (by kernel_rfl) (HT.out.grow (Grow.refl _).drew) ?_
  have hS := Stab.true_
  (refine anyC_val (i := 0) (some 6) rfl rfl (by kernel_rfl) (fun _ _ _ _ h => h) (by assumption) rfl ?_; apply Exists.intro; refine ⟨fun W hW => ?_, ?_⟩)
  · go_simp; try with_reducible rfl
  simp only [Act.put, List.setIfInBounds_toArray, List.set_cons_zero, List.set_cons_succ]
  refine anyC_load_row (i := 1) (some 7) rfl rfl (by kernel_rfl) (by assumption) rfl 27 (.tmp 2) rfl (w.heap.size) rfl _ ((us a)) (0, 0) _ (fun W hW => hW.one) Tryd.underlying27 rfl (by rw [Hsa.out]; kernel_rfl) (fun _ _ _ h => h) ?_
  simp only [Act.put, List.setIfInBounds_toArray, List.set_cons_zero, List.set_cons_succ]
  (refine anyC_call (i := 2) (some 8) (.agg (us (takeIn [2, 0, 0, 0, 0, 0, 0, 0] a))) rfl rfl (by kernel_rfl) (fun _ _ _ h => h) (by assumption) rfl (fun W hW => ?_) ?_)
  · go_simp; exact (rtake_any [2, 0, 0, 0, 0, 0, 0, 0] a rfl Ha.out _).mono (fun e w' h => ⟨h.1, hW.grow h.2, h.2⟩)
  simp only [Act.put, List.setIfInBounds_toArray, List.set_cons_zero, List.set_cons_succ]
  refine anyC_load_row (i := 3) (some 9) rfl rfl (by kernel_rfl) (by assumption) rfl 27 (.tmp 3) rfl ((w.heap.size + 1)) rfl _ ((us b)) (0, 0) _ (fun W hW => hW.two) Tryd.underlying27 rfl (by rw [Hsb.out]; kernel_rfl) (fun _ _ _ h => h) ?_
  simp only [Act.put, List.setIfInBounds_toArray, List.set_cons_zero, List.set_cons_succ]
  generalize hy : takeIn (takeIn [2, 0, 0, 0, 0, 0, 0, 0] a) b = y at *
  have Hy := Lib.hid hy
  clear hy
  (refine anyC_call (i := 4) (some 10) (.agg (us y)) rfl rfl (by kernel_rfl) (fun _ _ _ h => h) (by assumption) rfl (fun W hW => ?_) ?_)
  · go_simp; exact (rtake_any _ b L1.out Hb.out _).mono (fun e w' h => ⟨by rw [← Hy.out]; exact h.1, hW.grow h.2, h.2⟩)
  simp only [Act.put, List.setIfInBounds_toArray, List.set_cons_zero, List.set_cons_succ]
  refine anyC_alloc (i := 5) (some 5) rfl rfl (by kernel_rfl) hS 91 (us [0, 0, 0, 0, 0, 0, 0, 0]) rfl (fun W => by go_simp; rfl) (fun W hW => hW.grow ((Grow.refl _).alloc (Nat.le_refl _) _)) ?_
  intro g hg
  obtain ⟨wg, hwg, -, hgs⟩ := hg
  have hlt : w.heap.size + 1 + 1 < g := hgs ▸ hwg.res.lt
  clear hgs hwg
  simp only [Act.put, List.setIfInBounds_toArray, List.set_cons_zero, List.set_cons_succ]
  refine anyC_tail_lit (by kernel_rfl) (fun w2 h2 hR => ?_)
  simp only [List.drop_succ_cons, List.drop_zero]
  have hG := hR.2
  have hone := us_one y
  have hsy : (us y).size = 8 := us_size8 _ L2.out
  have H2 := Lib.hid h2
  have Hly := Lib.hid L2.out
  clear h2 hR
  go_upto_region 2 with (refine wpList_store_row rfl 91 (.tmp 5) (.tmp 10) rfl g (us y) rfl rfl 91 _ hG (by rw [hsy]; kernel_rfl) (by rw [hsy]; rfl) hone ?_)
  refine wp_gen (fun W => RPairAt w W a b ∧ Blk W g 91 (us y)) ?_ ?_
  · exact ⟨⟨H2.out.one.setRow_far (by omega) _, H2.out.two.setRow_far (by omega) _, H2.out.res.setRow_far (by omega) _, H2.out.bel.setRow (by omega) _⟩, hG.setRow _⟩
  intro w3 h3
  clear hG hone hsy H2
  have c0 := (h3.2.cell 0).trans (us_get y 0 (by rw [Hly.out]; omega))
  have c1 := (h3.2.cell 1).trans (us_get y 1 (by rw [Hly.out]; omega))
  have c2 := (h3.2.cell 2).trans (us_get y 2 (by rw [Hly.out]; omega))
  have c3 := (h3.2.cell 3).trans (us_get y 3 (by rw [Hly.out]; omega))
  have H3 := Lib.hid h3
  clear h3
  generalize hx0 : y.getD 0 0 = x0 at *
  generalize hx1 : y.getD 1 0 = x1 at *
  generalize hx2 : y.getD 2 0 = x2 at *
  generalize hx3 : y.getD 3 0 = x3 at *
  have hpe : pairD a b = [x0, x1, x2, x3] := by unfold pairD front; rw [Hy.out, hx0, hx1, hx2, hx3]
  have Hx := Lib.hid hpe
  clear hpe
  clear hx0 hx1 hx2 hx3
  have hR3 := H3.out.1.res
  have hone := us_one [x0, x1, x2, x3]
  have hs4 : (us [x0, x1, x2, x3]).size = 4 := by simp [us]
  go_wp2_with (refine wpList_store_row rfl 27 (.tmp 4) (.tmp 19) rfl (w.heap.size + 1 + 1) (us [x0, x1, x2, x3]) rfl rfl 27 _ hR3 (by rw [hs4]; kernel_rfl) (by rw [hs4]; rfl) hone ?_)
  refine bodyPost_ret (results_cell_row (p := 4) (ty := 27) rfl _ _ (w.heap.size + 1 + 1) 27 (us [x0, x1, x2, x3]) (0, 0) _ rfl (setRow_heap _ _ _ _ _ _ hR3) Tryd.underlying27 rfl (by rw [hs4]; kernel_rfl)) rfl ⟨by rw [Hx.out], ?_⟩
  exact H3.out.1.bel.setRow (by omega) _
end Go.Proofs.YtamllmoakgnjoaaDoor
