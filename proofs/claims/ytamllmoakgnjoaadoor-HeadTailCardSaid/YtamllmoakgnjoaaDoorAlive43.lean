/- seedcornlaw43.alive answers true: the examples of the document. -/
import Derived.Test.YtamllmoakgnjoaaDoorHeadOf
namespace Go.Proofs.YtamllmoakgnjoaaDoor
open Go.RowKit
def abS : ByteArray := ⟨#[97, 98]⟩
theorem SlS.of_blk {w : World} {b n : Nat} {e : TypeId} {l : List ByteArray} (h : Blk w b e (l.map Value.string).toArray) (hl : l.length = n) (hm : n ≤ maxLen) : SlS w (some ⟨b, 0, none⟩) n n l :=
  ⟨Nat.le_refl _, hm, hl, fun _ => ⟨b, 0, rfl, h.lt, fun i hi => by rw [h.cell, Nat.zero_add]; simp [List.getD, hl, hi]⟩⟩
theorem SlS.none (w : World) : SlS w none 0 0 [] := ⟨Nat.le_refl _, by simp [maxLen], rfl, fun h => by omega⟩
theorem root_ab : rootE noneE (digsE [abS]) = ofE [97, 98] := by
  unfold digsE
  rw [List.map_cons, List.map_nil, rootE_one]; rfl
theorem build_st0 (w : World) : (Instr.build TSt #[]).run Tryd.prog w = .ok (.agg #[.slice none 0 0]) w := run_build w TSt _ _ (by kernel_rfl)
theorem build_hd1 (d : D) (w : World) : (Instr.build THd #[(1, .agg (us d.1))]).run Tryd.prog w = .ok (.agg (hdC 0 d)) w := by
  obtain ⟨l, hl⟩ := d
  match l, hl with
  | [x0, x1, x2, x3], _ => exact run_build w THd _ _ (by kernel_rfl)
structure A43 (w0 w : World) (b g k : Nat) (r : D) : Prop where
  box : Blk w b TSt #[.slice (some ⟨g, 0, none⟩) 1 1]
  sl : SlS w (some ⟨g, 0, none⟩) 1 1 [abS]
  hd : Blk w k THd (hdC 1 r)
  gro : Grow w0 w
  pla : Places w
theorem A43.grow {w0 w w' : World} {b g k : Nat} {r : D} (h : A43 w0 w b g k r) (hg : Grow w w') : A43 w0 w' b g k r := ⟨h.box.grow hg, h.sl.grow hg, h.hd.grow hg, h.gro.tr hg, h.pla.grow hg⟩
theorem small_ab : small [abS] := by
  intro s hs
  have : s = abS := by simpa using hs
  subst this; decide
set_option maxRecDepth 100000 in
set_option maxHeartbeats 4000000 in
theorem alive43_c (w : World) (hP : Places w) : Calls Tryd.prog 21 #[] w fun e w' => e = .returned (.bool true) ∧ Grow w w' := by
  have HP := Lib.hid hP
  clear hP
  go_enter Tryd.func21, Tryd.ntmps21
  go_upto_region 2 with (fail)
  obtain ⟨g, hg⟩ : ∃ g, g = w.heap.size := ⟨_, rfl⟩
  have hga : Grow w ((w.alloc (.cells #[.string abS] 9)).alloc (.cells #[.slice (some ⟨w.heap.size, 0, none⟩) 1 1] TSt)) := ((Below.refl w.heap.size w).alloc (Nat.le_refl _) _).alloc (by simp) _
  have hsl : SlS ((w.alloc (.cells #[.string abS] 9)).alloc (.cells #[.slice (some ⟨w.heap.size, 0, none⟩) 1 1] TSt)) (some ⟨w.heap.size, 0, none⟩) 1 1 [abS] := SlS.of_blk (e := 9) ((Blk.new w 9 _).alloc _) rfl (by simp [maxLen])
  refine wp_gen (fun W => Blk W (g + 1) TSt #[.slice (some ⟨g, 0, none⟩) 1 1] ∧ SlS W (some ⟨g, 0, none⟩) 1 1 [abS] ∧ Grow w W) (by rw [hg]; exact ⟨Blk.new1 _ _ _ _, hsl, hga⟩) ?_
  rw [← hg]
  clear hg hga hsl
  intro w1 h1
  have hB := h1.1
  have H1 := Lib.hid h1
  clear h1
  go_wp2_with (refine wpList_load_row_g rfl TSt (.tmp 1) rfl (g + 1) rfl _ #[.slice (some ⟨g, 0, none⟩) 1 1] (0, 0) _ hB Tryd.underlying24 rfl (st_row _ 1 1) ?_)
  refine (shead_c (some ⟨g, 0, none⟩) 1 1 [abS] _ (by omega) small_ab (HP.out.grow H1.out.2.2) H1.out.2.1).mono ?_
  rintro e w2 ⟨rfl, hg2⟩
  have H2 := Lib.hid (And.intro (H1.out.1.grow hg2) (And.intro (H1.out.2.1.grow hg2) (H1.out.2.2.tr hg2)))
  clear hg2 hB
  generalize hr : rootE noneE (digsE [abS]) = r at *
  have Hr := Lib.hid hr
  clear hr
  have sy := hdC_size 1 r
  have oy := hdC_one 1 r
  generalize hz : hdC 1 r = z at *
  have Hz := Lib.hid hz
  clear hz
  go_upto_region 3 with (refine wpList_store_new rfl THd (.tmp 2) (.tmp 6) rfl z rfl rfl (by rw [sy]; kernel_rfl) (by rw [sy]; rfl) oy ?_)
  simp only [Act.put]
  rw [← Hz.out]
  obtain ⟨k, hk⟩ : ∃ k, k = w2.heap.size := ⟨_, rfl⟩
  have hga : Grow w2 (w2.alloc (.cells (hdC 1 r) THd)) := (Grow.refl _).alloc (Nat.le_refl _) _
  refine wp_gen (fun W => A43 w W (g + 1) g k r) ⟨H2.out.1.grow hga, H2.out.2.1.grow hga, hk ▸ Blk.new _ _ _, H2.out.2.2.tr hga, HP.out.grow (H2.out.2.2.tr hga)⟩ ?_
  rw [← hk]
  clear hk hga H1 H2 sy oy
  intro w3 h3
  have H3 := Lib.hid h3
  clear h3
  generalize hy : ofE [97, 98] = y at *
  have Hy := Lib.hid hy
  have hry : r = y := by rw [← Hr.out, root_ab, hy]
  have q1 := Lib.hid (fun W => rof_c [97, 98] W (by simp))
  rw [hy] at q1
  have q2 := Lib.hid (fun W => rof_c [] W (by simp))
  have hno : ofE [] = noneE := rfl
  rw [hno] at q2
  have l1 : lostE [abS] 1 r = 0 := by
    unfold lostE
    rw [if_neg (by omega), if_neg (by simp), if_pos]
    exact Hr.out
  have l2 : lostE [] 1 r = 6 := by
    unfold lostE
    rw [if_neg (by omega), if_pos (by simp)]
  have l3 : lostE [] 0 noneE = 0 := by
    unfold lostE
    rw [if_neg (by omega), if_neg (by simp), if_pos]
    exact rootE_nil noneE
  have m1 := Lib.hid (fun W (hW : A43 w W (g + 1) g k r) => lost_c (some ⟨g, 0, none⟩) 1 1 [abS] 1 r W (by omega) (by omega) (by omega) small_ab hW.pla hW.sl)
  have m2 := Lib.hid (fun W (hW : A43 w W (g + 1) g k r) => lost_c none 0 0 [] 1 r W (by omega) (by omega) (by omega) (fun s h => by cases h) hW.pla (SlS.none W))
  have m3 := Lib.hid (fun W (hW : A43 w W (g + 1) g k r) => lost_c none 0 0 [] 0 noneE W (by omega) (by omega) (by omega) (fun s h => by cases h) hW.pla (SlS.none W))
  rw [l1] at m1
  rw [l2] at m2
  rw [l3] at m3
  have Hry := Lib.hid hry
  have qe := Lib.hid (fun W => eqin_D9 r y W)
  rw [decide_eq_true hry] at qe
  have bh := Lib.hid (fun W => build_head 1 y W)
  generalize noneE = z0 at *
  clear hno l1 l2 l3 hry hy
  refine wp_region_all (fun W => A43 w W (g + 1) g k r) (by kernel_rfl) (by kernel_rfl) (H3.out.grow (Grow.refl _).drew) ?_
  refine quiet_load_row rfl THd (.tmp 2) rfl k rfl _ (hdC 1 r) (0, 0) _ (fun W hW => hW.hd) Tryd.underlying29 rfl (hd_row 1 r) ?_
  simp only [Act.put, List.setIfInBounds_toArray, List.set_cons_zero, List.set_cons_succ]
  (refine quiet_at rfl ⟨.agg (us y.1), fun W hW => ?_, ?_⟩)
  · go_simp; exact (q1.out _).mono (fun e w' h => ⟨h.1, hW.grow h.2⟩)
  simp only [Act.put, List.setIfInBounds_toArray, List.set_cons_zero, List.set_cons_succ]
  refine quiet_build rfl THd #[(0, .const (.int .i64 1)), (1, .tmp 8)] rfl [(0, .int .i64 1), (1, .agg (us y.1))] (by simp only [List.map_toArray, List.map_cons, List.map_nil]; rfl) (.agg (hdC 1 y)) (fun W => bh.out W) ?_
  simp only [Act.put, List.setIfInBounds_toArray, List.set_cons_zero, List.set_cons_succ]
  (refine quiet_ex rfl ?_; apply Exists.intro; refine ⟨fun W hW => ?_, ?_⟩)
  · have c0 := hdC_get0 1 r; have c1 := hdC_get0 1 y; have c2 := hdC_root 1 r; have c3 := hdC_root 1 y; have c4 := qe.out W; go_simp; try with_reducible rfl
  simp only [Act.put, List.setIfInBounds_toArray, List.set_cons_zero, List.set_cons_succ]
  (refine quiet_ex rfl ?_; apply Exists.intro; refine ⟨fun W hW => ?_, ?_⟩)
  · go_simp; try with_reducible rfl
  simp only [Act.put, List.setIfInBounds_toArray, List.set_cons_zero, List.set_cons_succ]
  refine quiet_load_row rfl TSt (.tmp 1) rfl (g + 1) rfl _ #[.slice (some ⟨g, 0, none⟩) 1 1] (0, 0) _ (fun W hW => hW.box) Tryd.underlying24 rfl (st_row _ 1 1) ?_
  simp only [Act.put, List.setIfInBounds_toArray, List.set_cons_zero, List.set_cons_succ]
  refine quiet_load_row rfl THd (.tmp 2) rfl k rfl _ (hdC 1 r) (0, 0) _ (fun W hW => hW.hd) Tryd.underlying29 rfl (hd_row 1 r) ?_
  simp only [Act.put, List.setIfInBounds_toArray, List.set_cons_zero, List.set_cons_succ]
  (refine quiet_at rfl ⟨.int .i64 0, fun W hW => ?_, ?_⟩)
  · go_simp; exact (m1.out _ hW).mono (fun e w' h => ⟨h.1, hW.grow h.2⟩)
  simp only [Act.put, List.setIfInBounds_toArray, List.set_cons_zero, List.set_cons_succ]
  (refine quiet_ex rfl ?_; apply Exists.intro; refine ⟨fun W hW => ?_, ?_⟩)
  · go_simp; try with_reducible rfl
  simp only [Act.put, List.setIfInBounds_toArray, List.set_cons_zero, List.set_cons_succ]
  (refine quiet_ex rfl ?_; apply Exists.intro; refine ⟨fun W hW => ?_, ?_⟩)
  · go_simp; try with_reducible rfl
  simp only [Act.put, List.setIfInBounds_toArray, List.set_cons_zero, List.set_cons_succ]
  (refine quiet_ex rfl ?_; apply Exists.intro; refine ⟨fun W hW => ?_, ?_⟩)
  · go_simp; try with_reducible rfl
  simp only [Act.put, List.setIfInBounds_toArray, List.set_cons_zero, List.set_cons_succ]
  refine quiet_build rfl TSt #[] rfl [] (by simp) (.agg #[.slice none 0 0]) (fun W => build_st0 W) ?_
  simp only [Act.put, List.setIfInBounds_toArray, List.set_cons_zero, List.set_cons_succ]
  refine quiet_load_row rfl THd (.tmp 2) rfl k rfl _ (hdC 1 r) (0, 0) _ (fun W hW => hW.hd) Tryd.underlying29 rfl (hd_row 1 r) ?_
  simp only [Act.put, List.setIfInBounds_toArray, List.set_cons_zero, List.set_cons_succ]
  (refine quiet_at rfl ⟨.int .i64 6, fun W hW => ?_, ?_⟩)
  · go_simp; exact (m2.out _ hW).mono (fun e w' h => ⟨h.1, hW.grow h.2⟩)
  simp only [Act.put, List.setIfInBounds_toArray, List.set_cons_zero, List.set_cons_succ]
  (refine quiet_ex rfl ?_; apply Exists.intro; refine ⟨fun W hW => ?_, ?_⟩)
  · go_simp; try with_reducible rfl
  simp only [Act.put, List.setIfInBounds_toArray, List.set_cons_zero, List.set_cons_succ]
  (refine quiet_ex rfl ?_; apply Exists.intro; refine ⟨fun W hW => ?_, ?_⟩)
  · go_simp; try with_reducible rfl
  simp only [Act.put, List.setIfInBounds_toArray, List.set_cons_zero, List.set_cons_succ]
  (refine quiet_ex rfl ?_; apply Exists.intro; refine ⟨fun W hW => ?_, ?_⟩)
  · go_simp; try with_reducible rfl
  simp only [Act.put, List.setIfInBounds_toArray, List.set_cons_zero, List.set_cons_succ]
  refine quiet_build rfl TSt #[] rfl [] (by simp) (.agg #[.slice none 0 0]) (fun W => build_st0 W) ?_
  simp only [Act.put, List.setIfInBounds_toArray, List.set_cons_zero, List.set_cons_succ]
  (refine quiet_at rfl ⟨.agg (us z0.1), fun W hW => ?_, ?_⟩)
  · go_simp; exact (q2.out _).mono (fun e w' h => ⟨h.1, hW.grow h.2⟩)
  simp only [Act.put, List.setIfInBounds_toArray, List.set_cons_zero, List.set_cons_succ]
  refine quiet_build rfl THd #[(1, .tmp 25)] rfl [(1, .agg (us z0.1))] (by simp only [List.map_toArray, List.map_cons, List.map_nil]; rfl) (.agg (hdC 0 z0)) (fun W => build_hd1 z0 W) ?_
  simp only [Act.put, List.setIfInBounds_toArray, List.set_cons_zero, List.set_cons_succ]
  (refine quiet_at rfl ⟨.int .i64 0, fun W hW => ?_, ?_⟩)
  · go_simp; exact (m3.out _ hW).mono (fun e w' h => ⟨h.1, hW.grow h.2⟩)
  simp only [Act.put, List.setIfInBounds_toArray, List.set_cons_zero, List.set_cons_succ]
  (refine quiet_ex rfl ?_; apply Exists.intro; refine ⟨fun W hW => ?_, ?_⟩)
  · go_simp; try with_reducible rfl
  simp only [Act.put, List.setIfInBounds_toArray, List.set_cons_zero, List.set_cons_succ]
  (refine quiet_ex rfl ?_; apply Exists.intro; refine ⟨fun W hW => ?_, ?_⟩)
  · go_simp; try with_reducible rfl
  simp only [Act.put, List.setIfInBounds_toArray, List.set_cons_zero, List.set_cons_succ]
  (refine quiet_ex rfl ?_; apply Exists.intro; refine ⟨fun W hW => ?_, ?_⟩)
  · go_simp; try with_reducible rfl
  simp only [Act.put, List.setIfInBounds_toArray, List.set_cons_zero]
  refine wpQuiet_nil ?_
  intro w4 h4
  have G4 := Lib.hid h4.gro
  clear h4
  go_wp2
  go_ret
  exact ⟨rfl, G4.out⟩
end Go.Proofs.YtamllmoakgnjoaaDoor
