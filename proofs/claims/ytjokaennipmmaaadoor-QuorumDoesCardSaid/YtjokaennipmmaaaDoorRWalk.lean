/- seedcornref05.Walk and Begin: what they return is what the plain functions give; the heap only grows. -/
import Derived.Test.YtjokaennipmmaaaDoorRSteps
namespace Go.Proofs.YtjokaennipmmaaaDoor
open Go.RowKit
structure RWalkAt (w wr : World) (x : D) : Prop where
  box : Blk wr w.heap.size 30 (us x.1)
  res : Blk wr (w.heap.size + 1) 30 (us D.zero.1)
  bel : Grow w wr
set_option maxHeartbeats 1000000 in
theorem rwalk_c (x : D) (n : Nat) (w : World) (hn : n ≤ 4294967296) :
    Calls Tryd.prog 49 #[.agg (us x.1), .int .i64 (n : Int)] w fun e w' => e = .returned (.agg (us (walkE x n).1)) ∧ Grow w w' := by
  go_enter Tryd.func49, Tryd.ntmps49
  go_upto_region 1 with (fail)
  refine wp_gen (fun W => RWalkAt w W x) ?_ ?_
  · exact ⟨(Blk.new _ _ _).alloc _, Blk.new1 _ _ _ _, ((Below.refl w.heap.size w).alloc (Nat.le_refl _) _).alloc (by simp) _⟩
  intro w1 h1
  have H1 := Lib.hid h1
  clear h1
  go_wp2_with fail
  go_loopw [5] (fun i wr => ∃ j : Nat, j ≤ n ∧ i = .int .i64 j ∧ RWalkAt w wr (walkE x j)) (fun i _ => n - (intOf i).toNat)
  case atStart => exact ⟨0, Nat.zero_le _, rfl, by rw [walkE_zero]; exact H1.out⟩
  case round =>
    obtain ⟨j, hj, rfl, hN⟩ := hrel
    clear H1
    have hB1 := hN.box
    have s1 := (walkE x j).sz
    have HN := Lib.hid hN
    clear hN
    by_cases hlt : j < n
    · have hj1 : decide ((j : Int) < (n : Int)) = true := by simpa using hlt
      have Hy := Lib.hid (walkE_succ x j)
      generalize walkE x j = z at *
      go_wp2_with (refine wpList_load_row_g rfl 30 (.tmp 2) rfl (w.heap.size) rfl _ (us z.1) (0, 0) _ hB1 Tryd.underlying30 rfl (by rw [s1]; kernel_rfl) ?_)
      have e1 : (#[.int .u32 0, .int .u32 0, .int .u32 0, .int .u32 1] : Array Value) = us oneE.1 := rfl
      rw [e1]
      refine (rpair_c z oneE _).mono ?_
      rintro e w2 ⟨rfl, hg⟩
      clear e1
      have hB3 := hB1.grow hg
      have s3 := (pairE z oneE).sz
      have o3 := (pairE z oneE).one
      have Hg := Lib.hid hg
      clear hg hB1
      generalize hz2 : pairE z oneE = z2 at *
      clear hz2
      go_upto_region 3 with (refine wpList_store_row rfl 30 (.tmp 2) (.tmp 13) rfl (w.heap.size) (us z2.1) rfl rfl _ _ hB3 (by rw [s3]; kernel_rfl) (by rw [s1, s3]) o3 ?_)
      simp only [Act.put]
      go_wp2
      go_roundw
      case rel =>
        refine ⟨j + 1, by omega, by go_num, ?_⟩
        rw [Hy.out]
        exact ⟨(HN.out.box.grow Hg.out).setRow _, (HN.out.res.grow Hg.out).setRow_far (by omega) _, (HN.out.bel.tr Hg.out).setRow (Nat.le_refl _) _⟩
      case measure => simp [intOf]; omega
    · have e8 : j = n := by omega
      subst e8
      have hR := HN.out.res
      have o1 := (walkE x j).one
      have hj1 : decide ((j : Int) < (j : Int)) = false := by simp
      generalize hz : walkE x j = z at *
      have Hz := Lib.hid hz
      clear hlt hz
      go_wp2_with (first
        | (refine wpList_load_row_g rfl 30 (.tmp 2) rfl (w.heap.size) rfl _ (us z.1) (0, 0) _ hB1 Tryd.underlying30 rfl (by rw [s1]; kernel_rfl) ?_)
        | (refine wpList_store_row rfl 30 (.tmp 4) (.tmp 14) rfl (w.heap.size + 1) (us z.1) rfl rfl _ _ hR (by rw [s1]; kernel_rfl) (by rw [s1]; exact D.zero.sz) o1 ?_))
      refine bodyPost_ret (results_cell_row (p := 4) (ty := 30) rfl _ _ (w.heap.size + 1) _ (us z.1) (0, 0) _ rfl (setRow_heap _ _ _ _ _ _ hR) Tryd.underlying30 rfl (by rw [s1]; kernel_rfl)) rfl ⟨by rw [Hz.out], ?_⟩
      exact HN.out.bel.setRow (by omega) _
set_option maxHeartbeats 1000000 in
theorem rbegin_c (seed : D) (i : Nat) (w : World) (hi : i < 4294967296) :
    Calls Tryd.prog 50 #[.agg (us seed.1), .int .i64 (i : Int)] w fun e w' => e = .returned (.agg (us (beginE seed i).1)) ∧ Grow w w' := by
  go_enter Tryd.func50, Tryd.ntmps50
  go_upto_region 1 with (fail)
  refine wp_gen (fun W => RWalkAt w W seed) ?_ ?_
  · exact ⟨(Blk.new _ _ _).alloc _, Blk.new1 _ _ _ _, ((Below.refl w.heap.size w).alloc (Nat.le_refl _) _).alloc (by simp) _⟩
  intro w1 h1
  have hB := h1.box
  have hR := h1.res
  have H1 := Lib.hid h1
  have s1 := seed.sz
  clear h1
  have h0 : (0 : Int) ≤ i := by omega
  have h2 : (i : Int) < 4294967296 := by omega
  go_wp2_with (refine wpList_load_row_g rfl 30 (.tmp 2) rfl (w.heap.size) rfl _ (us seed.1) (0, 0) _ hB Tryd.underlying30 rfl (by rw [s1]; kernel_rfl) ?_)
  have e1 : (#[.int .u32 (i : Int), .int .u32 0, .int .u32 0, .int .u32 0] : Array Value) = us [UInt32.ofNat i, 0, 0, 0] := by
    have : (UInt32.ofNat i).toNat = i := UInt32.toNat_ofNat_of_lt (by omega)
    simp [us, this]
  rw [e1]
  refine (rpair_c seed ⟨[UInt32.ofNat i, 0, 0, 0], rfl⟩ _).mono ?_
  rintro e w2 ⟨rfl, hg⟩
  have hR2 := hR.grow hg
  have Hg := Lib.hid hg
  clear hg hR hB
  have hz : pairE seed ⟨[UInt32.ofNat i, 0, 0, 0], rfl⟩ = beginE seed i := rfl
  rw [hz]
  have s3 := (beginE seed i).sz
  have o3 := (beginE seed i).one
  clear e1 hz
  generalize hz : beginE seed i = z at *
  have Hz := Lib.hid hz
  clear hz
  go_wp2_with (refine wpList_store_row rfl 30 (.tmp 4) (.tmp 9) rfl (w.heap.size + 1) (us z.1) rfl rfl _ _ hR2 (by rw [s3]; kernel_rfl) (by rw [s3]; exact D.zero.sz) o3 ?_)
  refine bodyPost_ret (results_cell_row (p := 4) (ty := 30) rfl _ _ (w.heap.size + 1) _ (us z.1) (0, 0) _ rfl (setRow_heap _ _ _ _ _ _ hR2) Tryd.underlying30 rfl (by rw [s3]; kernel_rfl)) rfl ⟨by rw [Hz.out], ?_⟩
  exact (H1.out.bel.tr Hg.out).setRow (by omega) _
end Go.Proofs.YtjokaennipmmaaaDoor
