/- onetime.beginning, onetime.together: what they return is what the plain functions give; the heap only grows. -/
import Derived.Test.YtjokaennipmmaaaDoorWalk
namespace Go.Proofs.YtjokaennipmmaaaDoor
open Go.RowKit
/-- What the loop of together knows: the key so far, the result's box. -/
structure TogAt (w wr : World) (x : D) : Prop where
  box : Blk wr (w.heap.size + 1) 30 (us x.1)
  res : Blk wr w.heap.size 30 (us D.zero.1)
  bel : Below w.heap.size w wr
  pla : Places wr
  gl : 0 < w.heap.size
theorem TogAt.grow {w wr w' : World} {x : D} (h : TogAt w wr x) (hg : Grow wr w') : TogAt w w' x :=
  ⟨h.box.grow hg, h.res.grow hg, below_tr h.bel hg h.bel.size, h.pla.grow hg, h.gl⟩
theorem TogAt.row {w wr : World} {x : D} (h : TogAt w wr x) (y : D) : TogAt w (wr.setRow (w.heap.size + 1) (us y.1)) y :=
  ⟨h.box.setRow _, h.res.setRow_far (by omega) _, h.bel.setRow (by omega) _, h.pla.under (Below.setRow (Below.refl w.heap.size _) (by omega) _) h.gl, h.gl⟩
set_option maxHeartbeats 1000000 in
theorem tog_c (F : FuncId) (caps : Array Value) (f : Nat → D) (w : World) (hP : Places w) (hF : ∀ args W, (callFunc F args).run Tryd.prog W = .ok (.enter F args) W)
    (hcall : ∀ (i : Nat) (W : World), i < 35 → Grow w W → Places W → Calls Tryd.prog F (#[.int .i64 (i : Int)] ++ caps) W fun e w' => e = .returned (.agg (us (f i).1)) ∧ Grow W w') :
    Calls Tryd.prog 37 #[.func (.func F) #[] caps] w fun e w' => e = .returned (.agg (us (ofTo f 35).1)) ∧ Grow w w' := by
  have HP := Lib.hid hP
  have HC := Lib.hid hcall
  clear hP hcall
  go_enter Tryd.func37, Tryd.ntmps37
  go_upto_region 2 with (fail)
  refine wp_gen (fun W => TogAt w W (ofTo f 0)) ?_ ?_
  · have hb := ((Below.refl w.heap.size w).alloc (Nat.le_refl _) (.cells (us D.zero.1) 30)).alloc (by simp) (.cells (us keyE.1) 30)
    exact ⟨Blk.new1 _ _ _ _, (Blk.new _ _ _).alloc _, hb, HP.out.grow hb, HP.out.1⟩
  intro w1 h1
  have H1 := Lib.hid h1
  clear h1
  go_wp2_with fail
  go_loopw [6] (fun i wr => ∃ j : Nat, j ≤ 35 ∧ i = .int .i64 j ∧ TogAt w wr (ofTo f j)) (fun i _ => 35 - (intOf i).toNat)
  case atStart => exact ⟨0, by omega, rfl, H1.out⟩
  case round =>
    obtain ⟨j, hj, rfl, hN⟩ := hrel
    have HN := Lib.hid hN
    clear H1 hN
    by_cases hlt : j < 35
    · have hj1 : decide ((j : Int) < 35) = true := by simp; omega
      have hy : ofTo f (j + 1) = pairE (ofTo f j) (f j) := ofTo_succ f j
      have Hy := Lib.hid hy
      clear hy
      generalize hz : ofTo f j = z at *
      clear hz
      have s1 := Lib.hid z.sz
      go_upto_region 5 with (fail)
      clear hj1
      refine wp_region_tail 5 (fun W => TogAt w W z) (by kernel_rfl) (by kernel_rfl) (HN.out.grow (Grow.refl _).drew) ?_
      simp only [List.take_succ_cons, List.take_zero, List.drop_succ_cons, List.drop_zero]
      refine quiet_load_row rfl 30 (.tmp 3) rfl ((w.heap.size + 1)) rfl _ ((us z.1)) (0, 0) _ (fun W hW => hW.box) Tryd.underlying30 rfl (by rw [s1.out]; kernel_rfl) ?_
      simp only [Act.put, List.setIfInBounds_toArray, List.set_cons_zero, List.set_cons_succ]
      (refine quiet_ex rfl ?_; apply Exists.intro; refine ⟨fun W hW => ?_, ?_⟩)
      · go_simp; try with_reducible rfl
      simp only [Act.put, List.setIfInBounds_toArray, List.set_cons_zero, List.set_cons_succ]
      (refine quiet_ex rfl ?_; apply Exists.intro; refine ⟨fun W hW => ?_, ?_⟩)
      · go_simp; try with_reducible rfl
      simp only [Act.put, List.setIfInBounds_toArray, List.set_cons_zero, List.set_cons_succ]
      (refine quiet_at rfl ⟨.agg (us (f j).1), fun W hW => ?_, ?_⟩)
      · go_simp; exact (HC.out j _ hlt hW.bel hW.pla).mono (fun e w' h => ⟨h.1, hW.grow h.2⟩)
      simp only [Act.put, List.setIfInBounds_toArray, List.set_cons_zero, List.set_cons_succ]
      (refine quiet_at rfl ⟨.agg (us (pairE z (f j)).1), fun W hW => ?_, ?_⟩)
      · go_simp; exact (pair_c z (f j) _ hW.pla).mono (fun e w' h => ⟨h.1, hW.grow h.2⟩)
      simp only [Act.put, List.setIfInBounds_toArray, List.set_cons_zero, List.set_cons_succ]
      refine wpQuiet_nil ?_
      intro w2 h2
      have hB := h2.box
      have s2 := (pairE z (f j)).sz
      have o2 := (pairE z (f j)).one
      have s3 := z.sz
      have H2 := Lib.hid h2
      clear h2
      generalize pairE z (f j) = z2 at *
      go_upto_region 6 with (refine wpList_store_row rfl 30 (.tmp 3) (.tmp 13) rfl (w.heap.size + 1) (us z2.1) rfl rfl _ _ hB (by rw [s2]; kernel_rfl) (by rw [s2, s3]) o2 ?_)
      simp only [Act.put]
      clear hB s2 s3 o2
      go_wp2
      go_roundw
      case rel =>
        refine ⟨j + 1, by omega, by go_num, ?_⟩
        rw [Hy.out]
        exact H2.out.row z2
      case measure => simp [intOf]; omega
    · have e8 : j = 35 := by omega
      subst e8
      have hB := HN.out.box
      have hR := HN.out.res
      generalize hz : ofTo f 35 = z at *
      have Hz := Lib.hid hz
      clear hz
      have s1 := z.sz
      have o1 := z.one
      have hj1 : decide ((35 : Int) < 35) = false := by simp
      clear hlt
      go_wp2_with (first
        | (refine wpList_load_row_g rfl 30 (.tmp 3) rfl (w.heap.size + 1) rfl _ (us z.1) (0, 0) _ hB Tryd.underlying30 rfl (by rw [s1]; kernel_rfl) ?_)
        | (refine wpList_store_row rfl 30 (.tmp 2) (.tmp 15) rfl (w.heap.size) (us z.1) rfl rfl _ _ hR (by rw [s1]; kernel_rfl) (by rw [s1]; exact D.zero.sz) o1 ?_))
      refine bodyPost_ret (results_cell_row (p := 2) (ty := 30) rfl _ _ (w.heap.size) _ (us z.1) (0, 0) _ rfl (setRow_heap _ _ _ _ _ _ hR) Tryd.underlying30 rfl (by rw [s1]; kernel_rfl)) rfl ⟨by rw [Hz.out], ?_⟩
      exact HN.out.bel.setRow (by omega) _
end Go.Proofs.YtjokaennipmmaaaDoor
