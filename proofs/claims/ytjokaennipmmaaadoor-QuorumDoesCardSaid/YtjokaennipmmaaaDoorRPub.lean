/- seedcornref05.Public: it returns the public key; the heap only grows. -/
import Derived.Test.YtjokaennipmmaaaDoorROf
namespace Go.Proofs.YtjokaennipmmaaaDoor
open Go.RowKit
theorem rof_congr (f : Nat → D) (s : List D) (h : ∀ i, i < 35 → s.getD i D.zero = f i) : ofTo (fun i => s.getD i D.zero) 35 = ofTo f 35 := ofTo_congr _ _ 35 h
structure RPubAt (w wr : World) (v : Value) (seed : D) (l : List D) : Prop where
  box : Blk wr w.heap.size 30 (us seed.1)
  res : Blk wr (w.heap.size + 1) 30 (us D.zero.1)
  own : wr.ownsRow (w.heap.size + 2) 30 4 v l.length (dcells l)
  gro : Grow w wr
def keysTo (seed : D) (n : Nat) : List D := (List.range n).map fun i => walkE (beginE seed i) 15
theorem keysTo_succ (seed : D) (n : Nat) : keysTo seed (n + 1) = keysTo seed n ++ [walkE (beginE seed n) 15] := by simp [keysTo, List.range_succ]
theorem keysTo_length (seed : D) (n : Nat) : (keysTo seed n).length = n := by simp [keysTo]
theorem keysTo_getD (seed : D) (n i : Nat) (hi : i < n) : (keysTo seed n).getD i D.zero = walkE (beginE seed i) 15 := by simp [keysTo, hi]
set_option maxHeartbeats 1000000 in
theorem rpublic_c (seed : D) (w : World) :
    Calls Tryd.prog 46 #[.agg (us seed.1)] w fun e w' => e = .returned (.agg (us (publicE seed).1)) ∧ Grow w w' := by
  go_enter Tryd.func46, Tryd.ntmps46
  go_upto_region 1 with (fail)
  refine wp_gen (fun W => RPubAt w W (.slice none 0 0) seed (keysTo seed 0)) ?_ ?_
  · exact ⟨(Blk.new _ _ _).alloc _, Blk.new1 _ _ _ _, World.ownsRow_nil _ _ _ _, ((Below.refl w.heap.size w).alloc (Nat.le_refl _) _).alloc (by simp) _⟩
  intro w1 h1
  have H1 := Lib.hid h1
  clear h1
  go_wp2_with fail
  go_loopw [3, 4] (fun v i wr => ∃ j : Nat, j ≤ 35 ∧ i = .int .i64 j ∧ RPubAt w wr v seed (keysTo seed j)) (fun _ i _ => 35 - (intOf i).toNat)
  case atStart => exact ⟨0, by omega, rfl, H1.out⟩
  case round =>
    obtain ⟨j, hj, rfl, hN⟩ := hrel
    clear H1
    have HN := Lib.hid hN
    clear hN
    by_cases hlt : j < 35
    · have hj1 : decide ((j : Int) < 35) = true := by simp; omega
      have hB := HN.out.box
      have s1 := seed.sz
      go_wp2_with (refine wpList_load_row_g rfl 30 (.tmp 1) rfl (w.heap.size) rfl _ (us seed.1) (0, 0) _ hB Tryd.underlying30 rfl (by rw [s1]; kernel_rfl) ?_)
      refine (rbegin_c seed j _ (by omega)).mono ?_
      rintro e w5 ⟨rfl, hg5⟩
      have G5 := Lib.hid hg5
      clear hg5 hB
      generalize hz : beginE seed j = z at *
      have Hz := Lib.hid hz
      clear hz
      go_wp2_with fail
      refine (rwalk_c z 15 _ (by omega)).mono ?_
      rintro e w6 ⟨rfl, hg6⟩
      have G6 := Lib.hid (G5.out.tr hg6)
      clear hg6 G5
      generalize hy : walkE z 15 = y at *
      have Hy := Lib.hid hy
      clear hy
      have hown := ownsRow_grow HN.out.own G6.out
      rw [keysTo_length] at hown
      have hbase : w.heap.size + 2 ≤ w6.heap.size := Nat.le_trans HN.out.res.lt G6.out.size
      go_wp2_with (first | (refine wpList_buildSlice_D rfl 22 30 (.tmp 13) rfl #[.int .u32 0, .int .u32 0, .int .u32 0, .int .u32 0] 16 rfl Tryd.underlying22 info_D y rfl ?_) | (at_builtin; refine wpList_append_new rfl (.tmp 9) (.tmp 14) 22 rfl (w.heap.size + 2) 30 (.agg #[.int .u32 0, .int .u32 0, .int .u32 0, .int .u32 0]) 4 16 Tryd.underlying22 info_D rfl (by omega) _ j _ rfl hown 1 1 (y.1.map u) rfl (by simp [y.2]) (us_news y) (by simp only [maxLen]; omega) (by omega) hbase ?_; intro v' w7 hown' hbel' hsame'))
      go_roundw
      case rel =>
        refine ⟨j + 1, by omega, by go_num, ?_⟩
        refine ⟨(HN.out.box.grow G6.out).below hbel' (by omega), (HN.out.res.grow G6.out).below hbel' (by omega), ?_, (HN.out.gro.tr G6.out).trans (hbel'.mono (by omega))⟩
        rw [keysTo_length, keysTo_succ, dcells_append, dcells_one, Hz.out, Hy.out]
        exact hown'
      case measure => simp [intOf]; omega
    · have e8 : j = 35 := by omega
      subst e8
      obtain ⟨A, c, hv, hs⟩ := SlD.of_own HN.out.own
      rw [keysTo_length] at hv hs
      have HS := Lib.hid hs
      have Hv := Lib.hid hv
      clear hs hv
      go_wp2_with fail
      rw [Hv.out]
      refine (rotof_c A c _ _ HS.out).mono ?_
      rintro e w5 ⟨rfl, hg5⟩
      have hR := HN.out.res.grow hg5
      have G5 := Lib.hid (HN.out.gro.tr hg5)
      clear hg5
      rw [rof_congr (fun i => walkE (beginE seed i) 15) _ (fun i hi => keysTo_getD seed 35 i hi)]
      have hz : ofTo (fun i => walkE (beginE seed i) 15) 35 = publicE seed := rfl
      rw [hz]
      clear hz
      have s2 := (publicE seed).sz
      have o2 := (publicE seed).one
      generalize hz : publicE seed = z at *
      have Hz := Lib.hid hz
      clear hz
      go_wp2_with (refine wpList_store_row rfl 30 (.tmp 2) (.tmp 17) rfl (w.heap.size + 1) (us z.1) rfl rfl _ _ hR (by rw [s2]; kernel_rfl) (by rw [s2]; exact D.zero.sz) o2 ?_)
      refine bodyPost_ret (results_cell_row (p := 2) (ty := 30) rfl _ _ (w.heap.size + 1) _ (us z.1) (0, 0) _ rfl (setRow_heap _ _ _ _ _ _ hR) Tryd.underlying30 rfl (by rw [s2]; kernel_rfl)) rfl ⟨by rw [Hz.out], ?_⟩
      exact G5.out.setRow (by omega) _
end Go.Proofs.YtjokaennipmmaaaDoor
