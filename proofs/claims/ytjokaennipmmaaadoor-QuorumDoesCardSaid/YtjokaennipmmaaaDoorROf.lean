/- seedcornref05.Of: the digest of 35 values. -/
import Derived.Test.YtjokaennipmmaaaDoorRWalk
import Derived.Test.YtjokaennipmmaaaDoorReach
namespace Go.Proofs.YtjokaennipmmaaaDoor
open Go.RowKit
structure ROfAt (w wr : World) (A : Option Addr) (c : Nat) (s : List D) (x : D) : Prop where
  res : Blk wr w.heap.size 30 (us D.zero.1)
  box : Blk wr (w.heap.size + 1) 30 (us x.1)
  sl : SlD wr A 35 c s
  far : ∀ ga oa, A = some ⟨ga, oa, none⟩ → ga < w.heap.size
  gro : Grow w wr
theorem ROfAt.grow {w wr w' : World} {A : Option Addr} {c : Nat} {s : List D} {x : D} (h : ROfAt w wr A c s x) (hg : Grow wr w') : ROfAt w w' A c s x :=
  ⟨h.res.grow hg, h.box.grow hg, h.sl.grow hg, h.far, h.gro.tr hg⟩
theorem ROfAt.row {w wr : World} {A : Option Addr} {c : Nat} {s : List D} {x : D} (h : ROfAt w wr A c s x) (y : D) : ROfAt w (wr.setRow (w.heap.size + 1) (us y.1)) A c s y :=
  ⟨h.res.setRow_far (by omega) _, h.box.setRow _, h.sl.setRow (fun ga oa e => by have := h.far ga oa e; omega) _, h.far, h.gro.setRow (by omega) _⟩
set_option maxHeartbeats 1000000 in
theorem rotof_c (A : Option Addr) (c : Nat) (s : List D) (w : World) (hs : SlD w A 35 c s) :
    Calls Tryd.prog 56 #[.slice A 35 c] w fun e w' => e = .returned (.agg (us (ofTo (fun i => s.getD i D.zero) 35).1)) ∧ Grow w w' := by
  have HS := Lib.hid hs
  clear hs
  obtain ⟨g, o, rfl, hgl, -⟩ := HS.out.2.2.2 (by omega)
  have hcs := Lib.hid HS.out.1
  go_enter Tryd.func56, Tryd.ntmps56
  go_upto_region 2 with (fail)
  refine wp_gen (fun W => ROfAt w W (some ⟨g, o, none⟩) c s (ofTo (fun i => s.getD i D.zero) 0)) ?_ ?_
  · have hb := ((Below.refl w.heap.size w).alloc (Nat.le_refl _) (.cells (us D.zero.1) 30)).alloc (by simp) (.cells (us keyE.1) 30)
    exact ⟨(Blk.new _ _ _).alloc _, Blk.new1 _ _ _ _, HS.out.grow hb, HS.out.lt (by omega), hb⟩
  intro w1 h1
  have H1 := Lib.hid h1
  clear h1
  go_wp2_with fail
  go_loopw [4] (fun i wr => ∃ j : Nat, j ≤ 35 ∧ i = .int .i64 j ∧ ROfAt w wr (some ⟨g, o, none⟩) c s (ofTo (fun i => s.getD i D.zero) j)) (fun i _ => 35 - (intOf i).toNat)
  case atStart => exact ⟨0, by omega, rfl, H1.out⟩
  case round =>
    obtain ⟨j, hj, rfl, hN⟩ := hrel
    clear H1
    have s1 := Lib.hid (ofTo (fun i => s.getD i D.zero) j).sz
    have HN := Lib.hid hN
    clear hN
    by_cases hlt : j < 35
    · have hj1 : decide ((j : Int) < 35) = true := by simp; omega
      have Hy := Lib.hid (ofTo_succ (fun i => s.getD i D.zero) j)
      have hgc := Lib.hid (fun W (hW : ROfAt w W (some ⟨g, o, none⟩) c s (ofTo (fun i => s.getD i D.zero) j)) => (show ∀ k, k < 4 → W.cell? ⟨g, o + j * 4 + k, none⟩ = some (u ((s.getD j D.zero).1.getD k 0)) by
        obtain ⟨g', o', e, _, hc⟩ := hW.sl.2.2.2 (by omega)
        injection e with e
        injection e with e1 e2 _
        subst e1 e2
        exact fun k hk => hc j k hlt hk))
      generalize ofTo (fun i => s.getD i D.zero) j = z at *
      generalize s.getD j D.zero = x at *
      have b1 : (0 : Int) ≤ j := by omega
      have b2 : (j : Int) < 35 := by omega
      go_upto_region 5 with (fail)
      refine wp_region_tail 6 (fun W => ROfAt w W (some ⟨g, o, none⟩) c s z) (by kernel_rfl) (by kernel_rfl) (HN.out.grow (Grow.refl _).drew) ?_
      simp only [List.take_succ_cons, List.take_zero, List.drop_succ_cons, List.drop_zero]
      refine quiet_load_row rfl 30 (.tmp 3) rfl ((w.heap.size + 1)) rfl _ ((us z.1)) (0, 0) _ (fun W hW => hW.box) Tryd.underlying30 rfl (by rw [s1.out]; kernel_rfl) ?_
      simp only [Act.put, List.setIfInBounds_toArray, List.set_cons_zero, List.set_cons_succ]
      (refine quiet_ex rfl ?_; apply Exists.intro; refine ⟨fun W hW => ?_, ?_⟩)
      · go_simp; try with_reducible rfl
      simp only [Act.put, List.setIfInBounds_toArray, List.set_cons_zero, List.set_cons_succ]
      (refine quiet_ex rfl ?_; apply Exists.intro; refine ⟨fun W hW => ?_, ?_⟩)
      · go_simp; try with_reducible rfl
      simp only [Act.put, List.setIfInBounds_toArray, List.set_cons_zero, List.set_cons_succ]
      (refine quiet_ex rfl ?_; apply Exists.intro; refine ⟨fun W hW => ?_, ?_⟩)
      · go_simp; try with_reducible rfl
      simp only [Act.put, List.setIfInBounds_toArray, List.set_cons_zero, List.set_cons_succ]
      refine quiet_load_D rfl 30 (.tmp 15) rfl g (o + j * 4) rfl x (fun W hW => hgc.out W hW) _ Tryd.underlying30 hi_D ?_
      simp only [Act.put, List.setIfInBounds_toArray, List.set_cons_zero, List.set_cons_succ]
      (refine quiet_at rfl ⟨.agg (us (pairE z x).1), fun W hW => ?_, ?_⟩)
      · go_simp; exact (rpair_c z x _).mono (fun e w' h => ⟨h.1, hW.grow h.2⟩)
      simp only [Act.put, List.setIfInBounds_toArray, List.set_cons_zero, List.set_cons_succ]
      refine wpQuiet_nil ?_
      intro w2 h2
      have hB := h2.box
      have H2 := Lib.hid h2
      have s2 := (pairE z x).sz
      have o2 := (pairE z x).one
      have s0 := s1.out
      clear h2
      generalize hz2 : pairE z x = z2 at *
      have Hz2 := Lib.hid hz2
      clear hz2
      go_upto_region 4 with (refine wpList_store_row rfl 30 (.tmp 3) (.tmp 17) rfl (w.heap.size + 1) (us z2.1) rfl rfl _ _ hB (by rw [s2]; kernel_rfl) (by rw [s0, s2]) o2 ?_)
      simp only [Act.put]
      go_wp2
      go_roundw
      case rel => exact ⟨j + 1, by omega, by go_num, by rw [Hy.out]; exact H2.out.row z2⟩
      case measure => simp [intOf]; omega
    · have e8 : j = 35 := by omega
      subst e8
      have hR := HN.out.res
      have hB := HN.out.box
      have o1 := (ofTo (fun i => s.getD i D.zero) 35).one
      have s0 := s1.out
      generalize hz : ofTo (fun i => s.getD i D.zero) 35 = z at *
      have Hz := Lib.hid hz
      clear hlt hz
      go_wp2_with (first
        | (refine wpList_load_row_g rfl 30 (.tmp 3) rfl (w.heap.size + 1) rfl _ (us z.1) (0, 0) _ hB Tryd.underlying30 rfl (by rw [s0]; kernel_rfl) ?_)
        | (refine wpList_store_row rfl 30 (.tmp 2) (.tmp 18) rfl (w.heap.size) (us z.1) rfl rfl _ _ hR (by rw [s0]; kernel_rfl) (by rw [s0]; exact D.zero.sz) o1 ?_))
      refine bodyPost_ret (results_cell_row (p := 2) (ty := 30) rfl _ _ (w.heap.size) _ (us z.1) (0, 0) _ rfl (setRow_heap _ _ _ _ _ _ hR) Tryd.underlying30 rfl (by rw [s0]; kernel_rfl)) rfl ⟨by rw [Hz.out], ?_⟩
      exact HN.out.gro.setRow (by omega) _
end Go.Proofs.YtjokaennipmmaaaDoor
