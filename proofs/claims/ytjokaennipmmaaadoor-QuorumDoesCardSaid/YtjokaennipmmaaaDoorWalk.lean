/- onetime.along and its closure, onetime.beginning, onetime.together, onetime.Public: what they return is what the plain functions give; the heap only grows. -/
import Derived.Test.YtjokaennipmmaaaDoorOt
namespace Go.Proofs.YtjokaennipmmaaaDoor
open Go.RowKit
/-- The closure that onetime.along makes. -/
def Along (w : World) (v : Value) : Prop := ∃ b, v = .func (.func 52) #[] #[.pointer (some ⟨b, 0, none⟩)] ∧ Blk w b 30 (us oneE.1)
theorem Along.grow {w w' : World} {v : Value} (h : Along w v) (hg : Grow w w') : Along w' v := let ⟨b, h1, h2⟩ := h; ⟨b, h1, h2.grow hg⟩
set_option maxHeartbeats 400000 in
theorem along_c (w : World) : Calls Tryd.prog 35 #[] w fun e w' => (∃ v, e = .returned v ∧ Along w' v) ∧ Grow w w' := by
  go_enter Tryd.func35, Tryd.ntmps35
  go_wp2
  go_ret
  exact ⟨⟨_, rfl, _, rfl, Blk.new _ _ _⟩, (Grow.refl _).alloc (Nat.le_refl _) _⟩
structure WalkAt (w wr : World) (b : Nat) (x : D) : Prop where
  one : Blk wr b 30 (us oneE.1)
  lt : b < w.heap.size
  gl : 0 < w.heap.size
  box : Blk wr w.heap.size 30 (us x.1)
  res : Blk wr (w.heap.size + 1) 30 (us D.zero.1)
  bel : Below w.heap.size w wr
  pla : Places wr
set_option maxHeartbeats 1000000 in
theorem walk_c (x : D) (n : Nat) (b : Nat) (w : World) (hP : Places w) (hb : Blk w b 30 (us oneE.1)) (hn : n ≤ 4294967296) :
    Calls Tryd.prog 52 #[.agg (us x.1), .int .i64 (n : Int), .pointer (some ⟨b, 0, none⟩)] w fun e w' => e = .returned (.agg (us (walkE x n).1)) ∧ Grow w w' := by
  have HP := Lib.hid hP
  have HB := Lib.hid hb
  clear hP hb
  go_enter Tryd.func52, Tryd.ntmps52
  go_upto_region 1 with (fail)
  refine wp_gen (fun W => WalkAt w W b x) ?_ ?_
  · have hb := ((Below.refl w.heap.size w).alloc (Nat.le_refl _) (.cells (us x.1) 30)).alloc (by simp) (.cells (us D.zero.1) 30)
    exact ⟨HB.out.grow hb, HB.out.lt, HP.out.1, (Blk.new _ _ _).alloc _, Blk.new1 _ _ _ _, hb, HP.out.grow hb⟩
  intro w1 h1
  have H1 := Lib.hid h1
  clear h1
  go_wp2_with fail
  go_loopw [7] (fun i wr => ∃ j : Nat, j ≤ n ∧ i = .int .i64 j ∧ WalkAt w wr b (walkE x j)) (fun i _ => n - (intOf i).toNat)
  case atStart => exact ⟨0, Nat.zero_le _, rfl, by rw [walkE_zero]; exact H1.out⟩
  case round =>
    obtain ⟨j, hj, rfl, hN⟩ := hrel
    clear H1 HB HP
    have hB1 := hN.box
    have hB2 := hN.one
    have s1 := (walkE x j).sz
    have s2 := oneE.sz
    have HN := Lib.hid hN
    clear hN
    by_cases hlt : j < n
    · have hj1 : decide ((j : Int) < (n : Int)) = true := by simpa using hlt
      have hy : walkE x (j + 1) = pairE (walkE x j) oneE := walkE_succ x j
      have Hy := Lib.hid hy
      clear hy
      generalize hz : walkE x j = z at *
      clear hz
      go_wp2_with (first
        | (refine wpList_load_row rfl 30 (.tmp 3) rfl w.heap.size rfl 30 (us z.1) (0, 0) _ hB1 Tryd.underlying30 rfl (by rw [s1]; kernel_rfl) ?_)
        | (refine wpList_load_row rfl 30 (.tmp 2) rfl b rfl 30 (us oneE.1) (0, 0) _ hB2 Tryd.underlying30 rfl (by rw [s2]; kernel_rfl) ?_))
      refine (pair_c z oneE _ HN.out.pla).mono ?_
      rintro e w2 ⟨rfl, hg⟩
      have hB3 := hB1.grow hg
      have s3 := (pairE z oneE).sz
      have o3 := (pairE z oneE).one
      have Hg := Lib.hid hg
      clear hg hB1 hB2 s2
      generalize hz2 : pairE z oneE = z2 at *
      clear hz2
      go_upto_region 4 with (refine wpList_store_row rfl 30 (.tmp 3) (.tmp 11) rfl w.heap.size (us z2.1) rfl rfl 30 _ hB3 (by rw [s3]; kernel_rfl) (by rw [s1, s3]) o3 ?_)
      simp only [Act.put]
      go_wp2
      go_roundw
      case rel =>
        refine ⟨j + 1, by omega, by go_num, ?_⟩
        rw [Hy.out]
        have h5 := HN.out.lt
        exact ⟨(HN.out.one.grow Hg.out).setRow_far (by omega) _, h5, HN.out.gl, (HN.out.box.grow Hg.out).setRow _, (HN.out.res.grow Hg.out).setRow_far (by omega) _, (below_tr HN.out.bel Hg.out HN.out.bel.size).setRow (Nat.le_refl _) _,
          (HN.out.pla.grow Hg.out).under (Below.setRow (Below.refl w.heap.size _) (Nat.le_refl _) _) HN.out.gl⟩
      case measure => simp [intOf]; omega
    · have e8 : j = n := by omega
      subst e8
      have hR := HN.out.res
      have o1 := (walkE x j).one
      have hj1 : decide ((j : Int) < (j : Int)) = false := by simp
      generalize hz : walkE x j = z at *
      have Hz := Lib.hid hz
      clear hlt hz
      go_wp2_with (first
        | (refine wpList_load_row rfl 30 (.tmp 3) rfl w.heap.size rfl 30 (us z.1) (0, 0) _ hB1 Tryd.underlying30 rfl (by rw [s1]; kernel_rfl) ?_)
        | (refine wpList_store_row rfl 30 (.tmp 5) (.tmp 13) rfl (w.heap.size + 1) (us z.1) rfl rfl 30 _ hR (by rw [s1]; kernel_rfl) (by rw [s1]; exact D.zero.sz) o1 ?_))
      refine bodyPost_ret (results_cell_row (p := 5) (ty := 30) rfl _ _ (w.heap.size + 1) 30 (us z.1) (0, 0) _ rfl (setRow_heap _ _ _ _ _ _ hR) Tryd.underlying30 rfl (by rw [s1]; kernel_rfl)) rfl ⟨by rw [Hz.out], ?_⟩
      exact HN.out.bel.setRow (by omega) _
end Go.Proofs.YtjokaennipmmaaaDoor
