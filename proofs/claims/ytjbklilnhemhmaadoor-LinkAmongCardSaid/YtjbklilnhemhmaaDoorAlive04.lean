/- seedcornlaw04.alive answers true: the example of the document. -/
import Derived.Test.YtjbklilnhemhmaaDoorB3
import Derived.Test.YtjbklilnhemhmaaDoorBs
namespace Go.Proofs.YtjbklilnhemhmaaDoor
open Go.RowKit
theorem root3 (a b c : D) : rootE noneE [a, b, c] = pairE (pairE a b) c := by
  have h3 : halfE 3 = 2 := by decide
  have h2 : halfE 2 = 1 := by decide
  rw [rootE_more noneE (by simp)]
  simp only [List.length_cons, List.length_nil, Nat.zero_add, Nat.reduceAdd, h3, List.take_succ_cons, List.take_zero, List.drop_succ_cons, List.drop_zero]
  rw [rootE_more noneE (by simp), rootE_one]
  simp only [List.length_cons, List.length_nil, Nat.zero_add, Nat.reduceAdd, h2, List.take_succ_cons, List.take_zero, List.drop_succ_cons, List.drop_zero, rootE_one]
theorem way3 (a b c : D) : wayE noneE [a, b, c] 1 = [a, c] := by
  have h3 : halfE 3 = 2 := by decide
  have h2 : halfE 2 = 1 := by decide
  rw [wayE_left noneE (by simp) (by simp only [List.length_cons, List.length_nil, Nat.zero_add, Nat.reduceAdd, h3]; omega)]
  simp only [List.length_cons, List.length_nil, Nat.zero_add, Nat.reduceAdd, h3, List.take_succ_cons, List.take_zero, List.drop_succ_cons, List.drop_zero, rootE_one]
  rw [wayE_right noneE (by simp) (by simp only [List.length_cons, List.length_nil, Nat.zero_add, Nat.reduceAdd, h2]; omega)]
  simp only [List.length_cons, List.length_nil, Nat.zero_add, Nat.reduceAdd, h2, List.take_succ_cons, List.take_zero, List.drop_succ_cons, List.drop_zero, rootE_one]
  rw [wayE_one noneE _ (by simp)]; rfl
theorem goes3 (a b c : D) : goesE noneE [a, b, c] 1 true = [b, c] := by
  have h3 : halfE 3 = 2 := by decide
  have h2 : halfE 2 = 1 := by decide
  rw [goesE_left noneE (by simp) (by simp) (by simp only [List.length_cons, List.length_nil, Nat.zero_add, Nat.reduceAdd, h3]; omega)]
  simp only [List.length_cons, List.length_nil, Nat.zero_add, Nat.reduceAdd, h3, List.take_succ_cons, List.take_zero, List.drop_succ_cons, List.drop_zero, rootE_one]
  rw [goesE_left noneE (by simp) (by simp) (by simp only [List.length_cons, List.length_nil, Nat.zero_add, Nat.reduceAdd, h2]; omega)]
  simp only [List.length_cons, List.length_nil, Nat.zero_add, Nat.reduceAdd, h2, List.take_succ_cons, List.take_zero, List.drop_succ_cons, List.drop_zero, rootE_one]
  have := goesE_all noneE [a]
  simp only [List.length_cons, List.length_nil, Nat.zero_add] at this
  rw [this]; rfl
/-- Three digests, one behind the other in a block. -/
theorem SlD.of_blk {w : World} {b : Nat} {e : TypeId} {l : List D} {n : Nat} (h : Blk w b e (dcells l).toArray) (hl : l.length = n) (hm : n ≤ maxLen) : SlD w (some ⟨b, 0, none⟩) n n l := by
  refine ⟨Nat.le_refl _, hm, hl, fun _ => ⟨b, 0, rfl, h.lt, fun i k hi hk => ?_⟩⟩
  rw [h.cell, Nat.zero_add]
  rw [List.getElem?_toArray, dcells_get l i k (by omega) hk]
  exact D.get _ k hk
structure AlAt (w0 w : World) (k : Nat) (a b c : D) : Prop where
  one : Blk w k 30 (us a.1)
  two : Blk w (k + 1) 30 (us b.1)
  tri : Blk w (k + 1 + 1) 30 (us c.1)
  gro : Grow w0 w
  pla : Places w
theorem AlAt.grow {w0 w w' : World} {k : Nat} {a b c : D} (h : AlAt w0 w k a b c) (hg : Grow w w') : AlAt w0 w' k a b c := ⟨h.one.grow hg, h.two.grow hg, h.tri.grow hg, h.gro.tr hg, h.pla.grow hg⟩
set_option maxRecDepth 100000 in
set_option maxHeartbeats 8000000 in
theorem alive04_c (w : World) (hP : Places w) : Calls Tryd.prog 26 #[] w fun e w' => e = .returned (.bool true) ∧ Grow w w' := by
  have HP := Lib.hid hP
  clear hP
  go_enter Tryd.func26, Tryd.ntmps26
  go_wp2_with fail
  refine (rof_c [97] _ (by simp)).mono ?_
  rintro e w1 ⟨rfl, hg1⟩
  have G1 := Lib.hid hg1
  clear hg1
  go_wp2_with fail
  refine (rof_c [98] _ (by simp)).mono ?_
  rintro e w2 ⟨rfl, hg2⟩
  have G2 := Lib.hid (G1.out.tr hg2)
  clear hg2
  go_wp2_with fail
  refine (rof_c [99] _ (by simp)).mono ?_
  rintro e w3 ⟨rfl, hg3⟩
  have G3 := Lib.hid (G2.out.tr hg3)
  clear hg3
  generalize ofE [97] = a at *
  generalize ofE [98] = b at *
  generalize ofE [99] = c at *
  have sa := a.sz
  have sb := b.sz
  have sc := c.sz
  have oa := a.one
  have ob := b.one
  have oc := c.one
  have z0 : Blk (((w3.alloc (.cells (us D.zero.1) 30)).alloc (.cells (us D.zero.1) 30)).alloc (.cells (us D.zero.1) 30)) w3.heap.size 30 (us D.zero.1) := ((Blk.new w3 30 (us D.zero.1)).alloc _).alloc _
  have z1 : Blk (((w3.alloc (.cells (us D.zero.1) 30)).alloc (.cells (us D.zero.1) 30)).alloc (.cells (us D.zero.1) 30)) (w3.heap.size + 1) 30 (us D.zero.1) := (Blk.new1 w3 30 (us D.zero.1) _).alloc _
  have z2 : Blk (((w3.alloc (.cells (us D.zero.1) 30)).alloc (.cells (us D.zero.1) 30)).alloc (.cells (us D.zero.1) 30)) (w3.heap.size + 1 + 1) 30 (us D.zero.1) := Blk.new2 w3 30 (us D.zero.1) _ _
  have y1 := z1.setRow_far (g' := w3.heap.size) (by omega) (us a.1)
  have y2 := (z2.setRow_far (g' := w3.heap.size) (by omega) (us a.1)).setRow_far (g' := w3.heap.size + 1) (by omega) (us b.1)
  have g0 := ((((Below.refl w3.heap.size w3).alloc (Nat.le_refl _) (.cells (us D.zero.1) 30)).alloc (by simp) (.cells (us D.zero.1) 30)).alloc (by simp; omega) (.cells (us D.zero.1) 30))
  have g1 := ((g0.setRow (g := w3.heap.size) (Nat.le_refl _) (us a.1)).setRow (g := w3.heap.size + 1) (by omega) (us b.1)).setRow (g := w3.heap.size + 1 + 1) (by omega) (us c.1)
  have x0 := ((z0.setRow (us a.1)).setRow_far (g' := w3.heap.size + 1) (by omega) (us b.1)).setRow_far (g' := w3.heap.size + 1 + 1) (by omega) (us c.1)
  have x1 := (y1.setRow (us b.1)).setRow_far (g' := w3.heap.size + 1 + 1) (by omega) (us c.1)
  have x2 := y2.setRow (us c.1)
  have X := Lib.hid (AlAt.mk x0 x1 x2 (G3.out.tr g1) (HP.out.grow (G3.out.tr g1)))
  clear x0 x1 x2 g0 g1 z1 z2
  go_upto_region 2 with (first
    | (refine wpList_store_row rfl 30 (.tmp 1) (.tmp 9) rfl (w3.heap.size) (us a.1) rfl rfl _ _ z0 (by rw [sa]; kernel_rfl) (by rw [sa]; rfl) oa ?_)
    | (refine wpList_store_row rfl 30 (.tmp 2) (.tmp 10) rfl (w3.heap.size + 1) (us b.1) rfl rfl _ _ y1 (by rw [sb]; kernel_rfl) (by rw [sb]; rfl) ob ?_)
    | (refine wpList_store_row rfl 30 (.tmp 3) (.tmp 11) rfl (w3.heap.size + 1 + 1) (us c.1) rfl rfl _ _ y2 (by rw [sc]; kernel_rfl) (by rw [sc]; rfl) oc ?_))
  refine wp_gen (fun W => AlAt w W w3.heap.size a b c) X.out ?_
  obtain ⟨k, hk⟩ : ∃ k, k = w3.heap.size := ⟨_, rfl⟩
  rw [← hk]
  clear X y1 y2 z0 hk
  intro w4 h4
  have b1 := h4.one
  have b2 := h4.two
  have b3 := h4.tri
  have H4 := Lib.hid h4
  clear h4
  go_upto_region 3 with (first
    | (refine wpList_load_row_g rfl 30 (.tmp 1) rfl (k) rfl _ (us a.1) (0, 0) _ b1 Tryd.underlying30 rfl (by rw [sa]; kernel_rfl) ?_)
    | (refine wpList_load_row_g rfl 30 (.tmp 2) rfl (k + 1) rfl _ (us b.1) (0, 0) _ b2 Tryd.underlying30 rfl (by rw [sb]; kernel_rfl) ?_)
    | (refine wpList_load_row_g rfl 30 (.tmp 3) rfl (k + 1 + 1) rfl _ (us c.1) (0, 0) _ b3 Tryd.underlying30 rfl (by rw [sc]; kernel_rfl) ?_)
    | (refine wpList_buildSlice_D3 (some 15) rfl rfl 34 30 (.tmp 12) (.tmp 13) (.tmp 14) rfl #[.int .u32 0, .int .u32 0, .int .u32 0, .int .u32 0] 16 rfl Tryd.underlying34 info_D a b c rfl rfl rfl ?_))
  obtain ⟨g, hg⟩ : ∃ g, g = w4.heap.size := ⟨_, rfl⟩
  have hga : Grow w4 (w4.alloc (.cells (dcells [a, b, c]).toArray 30)) := (Grow.refl _).alloc (Nat.le_refl _) _
  have hsl : SlD (w4.alloc (.cells (dcells [a, b, c]).toArray 30)) (some ⟨w4.heap.size, 0, none⟩) 3 3 [a, b, c] := SlD.of_blk (Blk.new _ _ _) rfl (by simp [maxLen])
  refine wp_gen (fun W => AlAt w W k a b c ∧ SlD W (some ⟨w4.heap.size, 0, none⟩) 3 3 [a, b, c]) ⟨H4.out.grow hga, hsl⟩ ?_
  rw [← hg]
  clear hg hga hsl H4 b1 b2 b3
  intro w5 h5
  have H5 := Lib.hid h5
  clear h5
  go_wp2_with fail
  have hp := prove_c 3 (by omega) 1 (some ⟨g, 0, none⟩) 3 [a, b, c] w5 (by omega) H5.out.1.pla H5.out.2
  rw [way3] at hp
  refine hp.mono ?_
  rintro e w6 ⟨v1, rfl, ho1, hg6⟩
  obtain ⟨A1, c1, rfl, hs1⟩ := SlD.of_own ho1
  have H6 := Lib.hid (And.intro (H5.out.1.grow hg6) (And.intro (H5.out.2.grow hg6) hs1))
  clear hp ho1 hs1 hg6
  go_wp2_with fail
  have hp := proveOn_c 3 (by omega) 1 (some ⟨g, 0, none⟩) 3 [a, b, c] w6 (by omega) (by omega) H6.out.1.pla H6.out.2.1
  rw [goes3] at hp
  refine hp.mono ?_
  rintro e w7 ⟨v2, rfl, ho2, hg7⟩
  obtain ⟨A2, c2, rfl, hs2⟩ := SlD.of_own ho2
  have H7 := Lib.hid (And.intro (H6.out.1.grow hg7) (And.intro (H6.out.2.1.grow hg7) (And.intro (H6.out.2.2.grow hg7) hs2)))
  clear hp ho2 hs2 hg7
  go_upto_region 5 with (fail)
  have S1 := Lib.hid sa
  have S2 := Lib.hid sb
  have S3 := Lib.hid sc
  clear sa sb sc oa ob oc
  have rr := Lib.hid (fun W (hW : AlAt w W k a b c ∧ SlD W (some ⟨g, 0, none⟩) 3 3 [a, b, c] ∧ SlD W A1 2 c1 [a, c] ∧ SlD W A2 2 c2 [b, c]) => root_c 3 3 (Nat.le_refl _) (by omega) (some ⟨g, 0, none⟩) 3 [a, b, c] W hW.1.pla hW.2.1)
  have r1 := Lib.hid (fun W => rpair_c a b W)
  have h3 := root3 a b c
  have r2 := Lib.hid (fun W => rpair_c (pairE a b) c W)
  generalize rootE noneE [a, b, c] = x1 at *
  generalize pairE a b = x2 at *
  generalize pairE x2 c = x3 at *
  have X3 := Lib.hid h3
  clear h3
  refine wp_region_anyC 30 (fun W => AlAt w W k a b c ∧ SlD W (some ⟨g, 0, none⟩) 3 3 [a, b, c] ∧ SlD W A1 2 c1 [a, c] ∧ SlD W A2 2 c2 [b, c]) (by kernel_rfl) (by kernel_rfl) ⟨H7.out.1.grow (Grow.refl _).drew, H7.out.2.1.grow (Grow.refl _).drew, H7.out.2.2.1.grow (Grow.refl _).drew, H7.out.2.2.2.grow (Grow.refl _).drew⟩ ?_
  have hS := Stab.true_
  (refine anyC_val (i := 0) (some 26) rfl rfl (by kernel_rfl) (fun _ _ _ _ h => h) (by assumption) rfl ?_; apply Exists.intro; refine ⟨fun W hW => ?_, ?_⟩)
  · go_simp; try with_reducible rfl
  simp only [Act.put, List.setIfInBounds_toArray, List.set_cons_zero, List.set_cons_succ]
  (refine anyC_call (i := 1) (some 27) (.agg (us x1.1)) rfl rfl (by kernel_rfl) (fun _ _ _ h => h) (by assumption) rfl (fun W hW => ?_) ?_)
  · go_simp; exact (rr.out _ hW).mono (fun e w' h => ⟨h.1, ⟨hW.1.grow h.2, hW.2.1.grow h.2, hW.2.2.1.grow h.2, hW.2.2.2.grow h.2⟩, h.2⟩)
  simp only [Act.put, List.setIfInBounds_toArray, List.set_cons_zero, List.set_cons_succ]
  refine anyC_load_row (i := 2) (some 28) rfl rfl (by kernel_rfl) (by assumption) rfl 30 (.tmp 1) rfl (k) rfl _ (us a.1) (0, 0) _ (fun W hW => hW.1.one) Tryd.underlying30 rfl (by rw [S1.out]; kernel_rfl) (fun _ _ _ h => h) ?_
  simp only [Act.put, List.setIfInBounds_toArray, List.set_cons_zero, List.set_cons_succ]
  refine anyC_load_row (i := 3) (some 29) rfl rfl (by kernel_rfl) (by assumption) rfl 30 (.tmp 2) rfl (k + 1) rfl _ (us b.1) (0, 0) _ (fun W hW => hW.1.two) Tryd.underlying30 rfl (by rw [S2.out]; kernel_rfl) (fun _ _ _ h => h) ?_
  simp only [Act.put, List.setIfInBounds_toArray, List.set_cons_zero, List.set_cons_succ]
  (refine anyC_call (i := 4) (some 30) (.agg (us x2.1)) rfl rfl (by kernel_rfl) (fun _ _ _ h => h) (by assumption) rfl (fun W hW => ?_) ?_)
  · go_simp; exact (r1.out _).mono (fun e w' h => ⟨h.1, ⟨hW.1.grow h.2, hW.2.1.grow h.2, hW.2.2.1.grow h.2, hW.2.2.2.grow h.2⟩, h.2⟩)
  simp only [Act.put, List.setIfInBounds_toArray, List.set_cons_zero, List.set_cons_succ]
  refine anyC_load_row (i := 5) (some 31) rfl rfl (by kernel_rfl) (by assumption) rfl 30 (.tmp 3) rfl (k + 1 + 1) rfl _ (us c.1) (0, 0) _ (fun W hW => hW.1.tri) Tryd.underlying30 rfl (by rw [S3.out]; kernel_rfl) (fun _ _ _ h => h) ?_
  simp only [Act.put, List.setIfInBounds_toArray, List.set_cons_zero, List.set_cons_succ]
  (refine anyC_call (i := 6) (some 32) (.agg (us x3.1)) rfl rfl (by kernel_rfl) (fun _ _ _ h => h) (by assumption) rfl (fun W hW => ?_) ?_)
  · go_simp; exact (r2.out _).mono (fun e w' h => ⟨h.1, ⟨hW.1.grow h.2, hW.2.1.grow h.2, hW.2.2.1.grow h.2, hW.2.2.2.grow h.2⟩, h.2⟩)
  simp only [Act.put, List.setIfInBounds_toArray, List.set_cons_zero, List.set_cons_succ]
  (refine anyC_val (i := 7) (some 33) rfl rfl (by kernel_rfl) (fun _ _ _ _ h => h) (by assumption) rfl ?_; apply Exists.intro; refine ⟨fun W hW => ?_, ?_⟩)
  · have c := eqin_D x1 x3 W; rw [decide_eq_true X3.out] at c; go_simp; try with_reducible rfl
  simp only [Act.put, List.setIfInBounds_toArray, List.set_cons_zero, List.set_cons_succ]
  (refine anyC_val (i := 8) (some 34) rfl rfl (by kernel_rfl) (fun _ _ _ _ h => h) (by assumption) rfl ?_; apply Exists.intro; refine ⟨fun W hW => ?_, ?_⟩)
  · go_simp; try with_reducible rfl
  simp only [Act.put, List.setIfInBounds_toArray, List.set_cons_zero, List.set_cons_succ]
  (refine anyC_val (i := 9) (some 35) rfl rfl (by kernel_rfl) (fun _ _ _ _ h => h) (by assumption) rfl ?_; apply Exists.intro; refine ⟨fun W hW => ?_, ?_⟩)
  · go_simp; try with_reducible rfl
  simp only [Act.put, List.setIfInBounds_toArray, List.set_cons_zero, List.set_cons_succ]
  (refine anyC_val (i := 10) (some 36) rfl rfl (by kernel_rfl) (fun _ _ _ _ h => h) (by assumption) rfl ?_; apply Exists.intro; refine ⟨fun W hW => ?_, ?_⟩)
  · go_simp; try with_reducible rfl
  simp only [Act.put, List.setIfInBounds_toArray, List.set_cons_zero, List.set_cons_succ]
  (refine anyC_val (i := 11) (some 37) rfl rfl (by kernel_rfl) (fun _ _ _ _ h => h) (by assumption) rfl ?_; apply Exists.intro; refine ⟨fun W hW => ?_, ?_⟩)
  · go_simp; try with_reducible rfl
  simp only [Act.put, List.setIfInBounds_toArray, List.set_cons_zero, List.set_cons_succ]
  (refine anyC_val (i := 12) (some 38) rfl rfl (by kernel_rfl) (fun _ _ _ _ h => h) (by assumption) rfl ?_; apply Exists.intro; refine ⟨fun W hW => ?_, ?_⟩)
  · go_simp; try with_reducible rfl
  simp only [Act.put, List.setIfInBounds_toArray, List.set_cons_zero, List.set_cons_succ]
  (refine anyC_val (i := 13) (some 39) rfl rfl (by kernel_rfl) (fun _ _ _ _ h => h) (by assumption) rfl ?_; apply Exists.intro; refine ⟨fun W hW => ?_, ?_⟩)
  · go_simp; try with_reducible rfl
  simp only [Act.put, List.setIfInBounds_toArray, List.set_cons_zero, List.set_cons_succ]
  refine anyC_load_row (i := 14) (some 40) rfl rfl (by kernel_rfl) (by assumption) rfl 30 (.tmp 1) rfl (k) rfl _ (us a.1) (0, 0) _ (fun W hW => hW.1.one) Tryd.underlying30 rfl (by rw [S1.out]; kernel_rfl) (fun _ _ _ h => h) ?_
  simp only [Act.put, List.setIfInBounds_toArray, List.set_cons_zero, List.set_cons_succ]
  refine anyC_load_row (i := 15) (some 41) rfl rfl (by kernel_rfl) (by assumption) rfl 30 (.tmp 3) rfl (k + 1 + 1) rfl _ (us c.1) (0, 0) _ (fun W hW => hW.1.tri) Tryd.underlying30 rfl (by rw [S3.out]; kernel_rfl) (fun _ _ _ h => h) ?_
  simp only [Act.put, List.setIfInBounds_toArray, List.set_cons_zero, List.set_cons_succ]
  refine anyC_one (i := 16) (by kernel_rfl) (fun W hW _ => ?_)
  refine wpOp_of_list rfl (fun Q' hK => ?_)
  refine wpList_buildSlice_D2 (some 42) rfl rfl 34 30 (.tmp 40) (.tmp 41) rfl #[.int .u32 0, .int .u32 0, .int .u32 0, .int .u32 0] 16 rfl Tryd.underlying34 info_D a c rfl rfl ?_
  have ha : Grow W _ := Below.alloc (Grow.refl W) (Nat.le_refl _) (Obj.cells (dcells [a, c]).toArray 30)
  obtain ⟨b0, hb0⟩ : ∃ b, b = W.heap.size := ⟨_, rfl⟩
  have hsl : SlD (W.alloc (Obj.cells (dcells [a, c]).toArray 30)) (some ⟨b0, 0, none⟩) 2 2 [a, c] := hb0 ▸ SlD.of_blk (Blk.new _ _ _) rfl (by simp [maxLen])
  refine hK _ _ ⟨⟨hW.1.grow ha, hW.2.1.grow ha, hW.2.2.1.grow ha, hW.2.2.2.grow ha⟩, (fun x => SlD x (some ⟨b0, 0, none⟩) 2 2 [a, c]), (fun _ _ h g => h.grow g), hsl, ?_⟩
  rw [← hb0]
  clear hb0 hW ha hsl hK
  simp only [Act.put, List.setIfInBounds_toArray, List.set_cons_zero, List.set_cons_succ]
  refine anyC_one (i := 17) (by kernel_rfl) (fun W hW hR => ?_)
  have hs := same_c A1 (some ⟨b0, 0, none⟩) 2 c1 2 2 [a, c] [a, c] W (by omega) hW.2.2.1 hR
  rw [decide_eq_true (rfl : [a, c] = [a, c])] at hs
  refine wpOp_call (some 43) rfl rfl rfl (by go_simp) (hs.mono ?_)
  rintro e w8 ⟨rfl, hg8⟩
  refine ⟨_, rfl, ⟨hW.1.grow hg8, hW.2.1.grow hg8, hW.2.2.1.grow hg8, hW.2.2.2.grow hg8⟩, (fun _ => True), Stab.true_, trivial, ?_⟩
  clear hs hW hR hg8
  have hS := Stab.true_
  simp only [Act.put, List.setIfInBounds_toArray, List.set_cons_zero, List.set_cons_succ]
  (refine anyC_val (i := 18) (some 44) rfl rfl (by kernel_rfl) (fun _ _ _ _ h => h) (by assumption) rfl ?_; apply Exists.intro; refine ⟨fun W hW => ?_, ?_⟩)
  · go_simp; try with_reducible rfl
  simp only [Act.put, List.setIfInBounds_toArray, List.set_cons_zero, List.set_cons_succ]
  (refine anyC_val (i := 19) (some 45) rfl rfl (by kernel_rfl) (fun _ _ _ _ h => h) (by assumption) rfl ?_; apply Exists.intro; refine ⟨fun W hW => ?_, ?_⟩)
  · go_simp; try with_reducible rfl
  simp only [Act.put, List.setIfInBounds_toArray, List.set_cons_zero, List.set_cons_succ]
  (refine anyC_val (i := 20) (some 46) rfl rfl (by kernel_rfl) (fun _ _ _ _ h => h) (by assumption) rfl ?_; apply Exists.intro; refine ⟨fun W hW => ?_, ?_⟩)
  · go_simp; try with_reducible rfl
  simp only [Act.put, List.setIfInBounds_toArray, List.set_cons_zero, List.set_cons_succ]
  (refine anyC_val (i := 21) (some 47) rfl rfl (by kernel_rfl) (fun _ _ _ _ h => h) (by assumption) rfl ?_; apply Exists.intro; refine ⟨fun W hW => ?_, ?_⟩)
  · go_simp; try with_reducible rfl
  simp only [Act.put, List.setIfInBounds_toArray, List.set_cons_zero, List.set_cons_succ]
  (refine anyC_val (i := 22) (some 48) rfl rfl (by kernel_rfl) (fun _ _ _ _ h => h) (by assumption) rfl ?_; apply Exists.intro; refine ⟨fun W hW => ?_, ?_⟩)
  · go_simp; try with_reducible rfl
  simp only [Act.put, List.setIfInBounds_toArray, List.set_cons_zero, List.set_cons_succ]
  (refine anyC_val (i := 23) (some 49) rfl rfl (by kernel_rfl) (fun _ _ _ _ h => h) (by assumption) rfl ?_; apply Exists.intro; refine ⟨fun W hW => ?_, ?_⟩)
  · go_simp; try with_reducible rfl
  simp only [Act.put, List.setIfInBounds_toArray, List.set_cons_zero, List.set_cons_succ]
  (refine anyC_val (i := 24) (some 50) rfl rfl (by kernel_rfl) (fun _ _ _ _ h => h) (by assumption) rfl ?_; apply Exists.intro; refine ⟨fun W hW => ?_, ?_⟩)
  · go_simp; try with_reducible rfl
  simp only [Act.put, List.setIfInBounds_toArray, List.set_cons_zero, List.set_cons_succ]
  refine anyC_load_row (i := 25) (some 51) rfl rfl (by kernel_rfl) (by assumption) rfl 30 (.tmp 2) rfl (k + 1) rfl _ (us b.1) (0, 0) _ (fun W hW => hW.1.two) Tryd.underlying30 rfl (by rw [S2.out]; kernel_rfl) (fun _ _ _ h => h) ?_
  simp only [Act.put, List.setIfInBounds_toArray, List.set_cons_zero, List.set_cons_succ]
  refine anyC_load_row (i := 26) (some 52) rfl rfl (by kernel_rfl) (by assumption) rfl 30 (.tmp 3) rfl (k + 1 + 1) rfl _ (us c.1) (0, 0) _ (fun W hW => hW.1.tri) Tryd.underlying30 rfl (by rw [S3.out]; kernel_rfl) (fun _ _ _ h => h) ?_
  simp only [Act.put, List.setIfInBounds_toArray, List.set_cons_zero, List.set_cons_succ]
  refine anyC_one (i := 27) (by kernel_rfl) (fun W hW _ => ?_)
  refine wpOp_of_list rfl (fun Q' hK => ?_)
  refine wpList_buildSlice_D2 (some 53) rfl rfl 34 30 (.tmp 51) (.tmp 52) rfl #[.int .u32 0, .int .u32 0, .int .u32 0, .int .u32 0] 16 rfl Tryd.underlying34 info_D b c rfl rfl ?_
  have ha : Grow W _ := Below.alloc (Grow.refl W) (Nat.le_refl _) (Obj.cells (dcells [b, c]).toArray 30)
  obtain ⟨b0, hb0⟩ : ∃ b, b = W.heap.size := ⟨_, rfl⟩
  have hsl : SlD (W.alloc (Obj.cells (dcells [b, c]).toArray 30)) (some ⟨b0, 0, none⟩) 2 2 [b, c] := hb0 ▸ SlD.of_blk (Blk.new _ _ _) rfl (by simp [maxLen])
  refine hK _ _ ⟨⟨hW.1.grow ha, hW.2.1.grow ha, hW.2.2.1.grow ha, hW.2.2.2.grow ha⟩, (fun x => SlD x (some ⟨b0, 0, none⟩) 2 2 [b, c]), (fun _ _ h g => h.grow g), hsl, ?_⟩
  rw [← hb0]
  clear hb0 hW ha hsl hK
  simp only [Act.put, List.setIfInBounds_toArray, List.set_cons_zero, List.set_cons_succ]
  refine anyC_one (i := 28) (by kernel_rfl) (fun W hW hR => ?_)
  have hs := same_c A2 (some ⟨b0, 0, none⟩) 2 c2 2 2 [b, c] [b, c] W (by omega) hW.2.2.2 hR
  rw [decide_eq_true (rfl : [b, c] = [b, c])] at hs
  refine wpOp_call (some 54) rfl rfl rfl (by go_simp) (hs.mono ?_)
  rintro e w8 ⟨rfl, hg8⟩
  refine ⟨_, rfl, ⟨hW.1.grow hg8, hW.2.1.grow hg8, hW.2.2.1.grow hg8, hW.2.2.2.grow hg8⟩, (fun _ => True), Stab.true_, trivial, ?_⟩
  clear hs hW hR hg8
  have hS := Stab.true_
  simp only [Act.put, List.setIfInBounds_toArray, List.set_cons_zero, List.set_cons_succ]
  (refine anyC_val (i := 29) (some 55) rfl rfl (by kernel_rfl) (fun _ _ _ _ h => h) (by assumption) rfl ?_; apply Exists.intro; refine ⟨fun W hW => ?_, ?_⟩)
  · go_simp; try with_reducible rfl
  simp only [Act.put, List.setIfInBounds_toArray, List.set_cons_zero, List.set_cons_succ]
  refine anyC_tail_lit (by kernel_rfl) (fun w9 h9 _ => ?_)
  simp only [List.drop_succ_cons, List.drop_zero]
  have G9 := Lib.hid h9.1.gro
  clear h9
  go_wp2_with fail
  go_ret
  exact ⟨rfl, G9.out⟩
end Go.Proofs.YtjbklilnhemhmaaDoor
