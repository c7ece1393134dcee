/- digest.front, digest.Pair: what they return is what the plain functions give; the heap only grows. -/
import Derived.Test.YtamllmoakgnjoaaDoorTake
namespace Go.Proofs.YtamllmoakgnjoaaDoor
open Go.RowKit
set_option maxHeartbeats 1000000 in
theorem front_any (s : List UInt32) (hs : s.length = 8) (w : World) :
    Calls Tryd.prog 86 #[.agg (us s)] w fun e w' => e = .returned (.agg (us (front s))) ∧ Grow w w' := by
  obtain ⟨a, b, c, d, e, f, g, k, rfl⟩ := list8 s hs
  clear hs
  show Calls Tryd.prog 86 #[.agg #[.int .u32 (a.toNat : Int), .int .u32 (b.toNat : Int), .int .u32 (c.toNat : Int), .int .u32 (d.toNat : Int), .int .u32 (e.toNat : Int), .int .u32 (f.toNat : Int), .int .u32 (g.toNat : Int), .int .u32 (k.toNat : Int)]] w _
  go_enter Tryd.func86, Tryd.ntmps86
  go_wp2
  refine bodyPost_ret (v := .agg (us [a, b, c, d])) ?_ rfl ⟨rfl, ((Below.refl _ _).alloc (Nat.le_refl _) _).alloc (by simp) _⟩
  simp [results, Tryd.results86, go_sem]
  rfl
structure PairAt (w wr : World) (a b : List UInt32) : Prop where
  one : Blk wr w.heap.size 27 (us a)
  two : Blk wr (w.heap.size + 1) 27 (us b)
  res : Blk wr (w.heap.size + 1 + 1) 27 (us [0, 0, 0, 0])
  bel : Below w.heap.size w wr
  pla : Places wr
theorem PairAt.grow {w wr w' : World} {a b : List UInt32} (h : PairAt w wr a b) (hg : Grow wr w') : PairAt w w' a b :=
  ⟨h.one.grow hg, h.two.grow hg, h.res.grow hg, below_tr h.bel hg h.bel.size, h.pla.grow hg⟩
set_option maxHeartbeats 1000000 in
theorem pair_any (a b : List UInt32) (ha : a.length = 4) (hb : b.length = 4) (w : World) (hP : Places w) :
    Calls Tryd.prog 63 #[.agg (us a), .agg (us b)] w fun e w' => e = .returned (.agg (us (pairD a b))) ∧ Grow w w' := by
  have hsa : (us a).size = 4 := by simp [us, ha]
  have hsb : (us b).size = 4 := by simp [us, hb]
  have Hsa := Lib.hid hsa
  have Hsb := Lib.hid hsb
  have Ha := Lib.hid ha
  have Hb := Lib.hid hb
  clear ha hb hsa hsb
  have HP := Lib.hid hP
  clear hP
  go_enter Tryd.func63, Tryd.ntmps63
  go_upto_region 1 with (fail)
  refine wp_gen (fun W => PairAt w W a b) ?_ ?_
  · have hb := (((Below.refl w.heap.size w).alloc (Nat.le_refl _) (.cells (us a) 27)).alloc (by simp) (.cells (us b) 27)).alloc (by simp; omega) (.cells (us [0, 0, 0, 0]) 27)
    exact ⟨((Blk.new _ _ _).alloc _).alloc _, (Blk.new1 _ _ _ _).alloc _, Blk.new2 _ _ _ _ _, hb, HP.out.grow hb⟩
  intro w1 hT
  have HT := Lib.hid hT
  clear hT
  have l1 : (takeIn [2, 0, 0, 0, 0, 0, 0, 0] a).length = 8 := takeIn_length _ _
  have l2 : (takeIn (takeIn [2, 0, 0, 0, 0, 0, 0, 0] a) b).length = 8 := (takeIn_length _ _).trans l1
  have L1 := Lib.hid l1
  have L2 := Lib.hid l2
  clear l1 l2
  refine wp_region_tail 6 (fun W => PairAt w W a b) (by kernel_rfl) (by kernel_rfl) (HT.out.grow (Grow.refl _).drew) ?_
  simp only [List.take_succ_cons, List.take_zero, List.drop_succ_cons, List.drop_zero]
  (refine quiet_ex rfl ?_; apply Exists.intro; refine ⟨fun W hW => ?_, ?_⟩)
  · go_simp; try with_reducible rfl
  simp only [Act.put, List.setIfInBounds_toArray, List.set_cons_zero, List.set_cons_succ]
  refine quiet_load_row rfl 27 (.tmp 2) rfl (w.heap.size) rfl _ ((us a)) (0, 0) _ (fun W hW => hW.one) Tryd.underlying27 rfl (by rw [Hsa.out]; kernel_rfl) ?_
  simp only [Act.put, List.setIfInBounds_toArray, List.set_cons_zero, List.set_cons_succ]
  (refine quiet_at rfl ⟨.agg (us (takeIn [2, 0, 0, 0, 0, 0, 0, 0] a)), fun W hW => ?_, ?_⟩)
  · go_simp; exact (take_any [2, 0, 0, 0, 0, 0, 0, 0] a rfl Ha.out _ hW.pla).mono (fun e w' h => ⟨h.1, hW.grow h.2⟩)
  simp only [Act.put, List.setIfInBounds_toArray, List.set_cons_zero, List.set_cons_succ]
  refine quiet_load_row rfl 27 (.tmp 3) rfl ((w.heap.size + 1)) rfl _ ((us b)) (0, 0) _ (fun W hW => hW.two) Tryd.underlying27 rfl (by rw [Hsb.out]; kernel_rfl) ?_
  simp only [Act.put, List.setIfInBounds_toArray, List.set_cons_zero, List.set_cons_succ]
  (refine quiet_at rfl ⟨.agg (us (takeIn (takeIn [2, 0, 0, 0, 0, 0, 0, 0] a) b)), fun W hW => ?_, ?_⟩)
  · go_simp; exact (take_any _ b L1.out Hb.out _ hW.pla).mono (fun e w' h => ⟨h.1, hW.grow h.2⟩)
  simp only [Act.put, List.setIfInBounds_toArray, List.set_cons_zero, List.set_cons_succ]
  (refine quiet_at rfl ⟨.agg (us (pairD a b)), fun W hW => ?_, ?_⟩)
  · go_simp; exact (front_any _ L2.out _).mono (fun e w' h => ⟨h.1, hW.grow h.2⟩)
  simp only [Act.put, List.setIfInBounds_toArray, List.set_cons_zero, List.set_cons_succ]
  refine wpQuiet_nil ?_
  intro w2 h2
  have hR := h2.res
  have H2 := Lib.hid h2
  clear h2
  have hone := us_one (pairD a b)
  generalize hy : pairD a b = y at *
  have hsy : (us y).size = 4 := by rw [← hy]; rfl
  have Hy := Lib.hid hy
  clear hy
  go_wp2_with (refine wpList_store_row rfl 27 (.tmp 4) (.tmp 10) rfl (w.heap.size + 1 + 1) (us y) rfl rfl 27 _ hR (by rw [hsy]; kernel_rfl) (by rw [hsy]; rfl) hone ?_)
  refine bodyPost_ret (results_cell_row (p := 4) (ty := 27) rfl _ _ (w.heap.size + 1 + 1) 27 (us y) (0, 0) _ rfl (setRow_heap _ _ _ _ _ _ hR) Tryd.underlying27 rfl (by rw [hsy]; kernel_rfl)) rfl ⟨by rw [Hy.out], ?_⟩
  exact H2.out.bel.setRow (by omega) _
end Go.Proofs.YtamllmoakgnjoaaDoor
