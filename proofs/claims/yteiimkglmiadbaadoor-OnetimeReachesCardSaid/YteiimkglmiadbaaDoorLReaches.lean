/- The walk of the law OnetimeReaches: it answers true. -/
import Derived.Test.YteiimkglmiadbaaDoorAwake
import Derived.Test.YteiimkglmiadbaaDoorRReach
namespace Go.Proofs.YteiimkglmiadbaaDoor
open Go.RowKit
structure LRcAt (w0 w : World) (a b : D) (A : Option Addr) (n c : Nat) (s : List D) : Prop where
  one : Blk w w0.heap.size 24 (us a.1)
  two : Blk w (w0.heap.size + 1) 24 (us b.1)
  sl : SlD w A n c s
  gro : Grow w0 w
  pla : Places w
theorem LRcAt.grow {w0 w w' : World} {a b : D} {A : Option Addr} {n c : Nat} {s : List D} (h : LRcAt w0 w a b A n c s) (hg : Grow w w') : LRcAt w0 w' a b A n c s :=
  ⟨h.one.grow hg, h.two.grow hg, h.sl.grow hg, h.gro.tr hg, h.pla.grow hg⟩
set_option maxRecDepth 100000 in
set_option maxHeartbeats 4000000 in
theorem lreaches_walk (a b : D) (A : Option Addr) (n c : Nat) (s : List D) (w : World) (hP : Places w) (hs : SlD w A n c s) : Calls Tryd.prog 6 #[.agg (us a.1), .agg (us b.1), .slice A n c] w fun e w' => e = .returned (.bool true) ∧ Grow w w' := by
  have HP := Lib.hid hP
  have HS := Lib.hid hs
  clear hP hs
  have S2 := Lib.hid b.sz
  have S1 := Lib.hid a.sz
  by_cases hn : 40 < n
  · have h40 : decide ((40 : Int) < (n : Int)) = true := by simp; omega
    go_enter Tryd.func6, Tryd.ntmps6
    go_upto_region 1 with (fail)
    have hg0 := ((Below.refl w.heap.size w).alloc (Nat.le_refl _) (.cells (us a.1) 24)).alloc (by simp) (.cells (us b.1) 24)
    refine wp_gen (fun W => LRcAt w W a b A n c s) ⟨(Blk.new _ _ _).alloc _, Blk.new1 _ _ _ _, HS.out.grow hg0, hg0, HP.out.grow hg0⟩ ?_
    clear hg0
    intro w1 h1
    have H1 := Lib.hid h1
    clear h1
    go_wp2_with fail
    refine (awake_c _ H1.out.pla).mono ?_
    rintro e w2 ⟨rfl, hg⟩
    go_wp2_with fail
    go_ret
    exact ⟨rfl, H1.out.gro.tr hg⟩
  · have h40 : decide ((40 : Int) < (n : Int)) = false := by simp; omega
    go_enter Tryd.func6, Tryd.ntmps6
    go_upto_region 1 with (fail)
    have hg0 := ((Below.refl w.heap.size w).alloc (Nat.le_refl _) (.cells (us a.1) 24)).alloc (by simp) (.cells (us b.1) 24)
    refine wp_gen (fun W => LRcAt w W a b A n c s) ⟨(Blk.new _ _ _).alloc _, Blk.new1 _ _ _ _, HS.out.grow hg0, hg0, HP.out.grow hg0⟩ ?_
    clear hg0
    intro w1 h1
    have hm := h1.two
    have sm := S2.out
    have H1 := Lib.hid h1
    clear h1
    go_wp2_with (refine wpList_load_row_g rfl 24 (.tmp 4) rfl (w.heap.size + 1) rfl _ (us b.1) (0, 0) _ hm Tryd.underlying24 rfl (by rw [sm]; kernel_rfl) ?_)
    have rc := Lib.hid (fun W (hP : Places W) hs => reach_c b A n c s W hP hs)
    have rr := Lib.hid (fun W hs => rreach_c b A n c s W hs)
    have hck : checkE (reachP b s).1 b s = (reachP b s).2 := by rw [checkE_eq]; simp
    obtain ⟨z, hz⟩ : ∃ z, z = (reachP b s).1 := ⟨_, rfl⟩
    obtain ⟨z2, hz2⟩ : ∃ z, z = (reachP b s).1 := ⟨_, rfl⟩
    obtain ⟨bb, hbb⟩ : ∃ x, x = (reachP b s).2 := ⟨_, rfl⟩
    rw [← hz, ← hbb] at hck
    refine (rc.out _ H1.out.pla H1.out.sl).mono ?_
    rw [← hz, ← hbb]
    have Rr : ∀ W, SlD W A n c s → Calls Tryd.prog 20 #[.agg (us b.1), .slice A n c] W fun e w' => e = .returned (.tuple #[.agg (us z2.1), .bool bb]) ∧ Grow W w' := fun W hs => by rw [hz2, hbb]; exact rr.out W hs
    have RR := Lib.hid Rr
    have Hzz := Lib.hid (hz.trans hz2.symm)
    have Hck := Lib.hid hck
    clear hz hz2 hbb hck rr rc Rr
    rintro e w2 ⟨rfl, hg2⟩
    have H2 := Lib.hid (H1.out.grow hg2)
    clear hg2 hm
    have sz1 := z.sz
    have so1 := z.one
    have hzz : #[Value.int .u32 0, .int .u32 0, .int .u32 0, .int .u32 0].size = (us z.1).size := by rw [sz1]; rfl
    go_upto_region 4 with (refine wpList_store_new rfl 24 (.tmp 7) (.tmp 19) rfl (us z.1) rfl rfl (by rw [sz1]; kernel_rfl) hzz so1 ?_)
    obtain ⟨k7, hk7⟩ : ∃ bk, bk = w2.heap.size := ⟨_, rfl⟩
    have hga : Grow w2 (w2.alloc (.cells (us z.1) 24)) := Below.alloc (Grow.refl w2) (Nat.le_refl _) _
    refine wp_gen (fun W => Blk W k7 24 (us z.1) ∧ LRcAt w W a b A n c s) (hk7 ▸ ⟨Blk.new _ _ _, H2.out.grow hga⟩) ?_
    rw [← hk7]
    clear hk7 hzz hga
    intro w3 h3
    have hm := h3.2.two
    have H3 := Lib.hid h3
    clear h3
    go_wp2_with (refine wpList_load_row_g rfl 24 (.tmp 4) rfl (w.heap.size + 1) rfl _ (us b.1) (0, 0) _ hm Tryd.underlying24 rfl (by rw [sm]; kernel_rfl) ?_)
    refine (RR.out _ H3.out.2.sl).mono ?_
    rintro e w4 ⟨rfl, hg4⟩
    have H4 := Lib.hid (And.intro (H3.out.1.grow hg4) (H3.out.2.grow hg4))
    clear hg4 hm
    have sz2 := z2.sz
    have so2 := z2.one
    have hzz : #[Value.int .u32 0, .int .u32 0, .int .u32 0, .int .u32 0].size = (us z2.1).size := by rw [sz2]; rfl
    go_upto_region 5 with (refine wpList_store_new rfl 24 (.tmp 9) (.tmp 25) rfl (us z2.1) rfl rfl (by rw [sz2]; kernel_rfl) hzz so2 ?_)
    obtain ⟨k9, hk9⟩ : ∃ bk, bk = w4.heap.size := ⟨_, rfl⟩
    have hga : Grow w4 (w4.alloc (.cells (us z2.1) 24)) := Below.alloc (Grow.refl w4) (Nat.le_refl _) _
    refine wp_gen (fun W => Blk W k9 24 (us z2.1) ∧ Blk W k7 24 (us z.1) ∧ LRcAt w W a b A n c s) (hk9 ▸ ⟨Blk.new _ _ _, H4.out.1.grow hga, H4.out.2.grow hga⟩) ?_
    rw [← hk9]
    clear hk9 hzz hga
    intro w5 h5
    obtain ⟨ck, hcke⟩ : ∃ x, x = checkE a b s := ⟨_, rfl⟩
    have cA := Lib.hid (fun W (hP : Places W) hs => hcke ▸ check_c a b A n c s W hP hs)
    have cB := Lib.hid (fun W hs => hcke ▸ rcheck_c a b A n c s W hs)
    have cC := Lib.hid (fun W (hP : Places W) hs => Hck.out ▸ check_c z b A n c s W hP hs)
    clear hcke
    refine wp_region_all (fun W => Blk W k9 24 (us z2.1) ∧ Blk W k7 24 (us z.1) ∧ LRcAt w W a b A n c s) (by kernel_rfl) (by kernel_rfl) ⟨h5.1.drew, h5.2.1.drew, h5.2.2.grow (Grow.refl _).drew⟩ ?_
    clear h5
    (refine quiet_at rfl ⟨.bool true, fun W hW => ?_, ?_⟩)
    · go_simp; exact (awake_c _ hW.2.2.pla).mono (fun e w' h => ⟨h.1, hW.1.grow h.2, hW.2.1.grow h.2, hW.2.2.grow h.2⟩)
    simp only [Act.put, List.setIfInBounds_toArray, List.set_cons_zero, List.set_cons_succ]
    (refine quiet_ex rfl ?_; apply Exists.intro; refine ⟨fun W hW => ?_, ?_⟩)
    · go_simp; try with_reducible rfl
    simp only [Act.put, List.setIfInBounds_toArray, List.set_cons_zero, List.set_cons_succ]
    refine quiet_load_row rfl 24 (.tmp 7) rfl (k7) rfl _ ((us z.1)) (0, 0) _ (fun W hW => hW.2.1) Tryd.underlying24 rfl (by rw [sz1]; kernel_rfl) ?_
    simp only [Act.put, List.setIfInBounds_toArray, List.set_cons_zero, List.set_cons_succ]
    refine quiet_load_row rfl 24 (.tmp 9) rfl (k9) rfl _ ((us z2.1)) (0, 0) _ (fun W hW => hW.1) Tryd.underlying24 rfl (by rw [sz2]; kernel_rfl) ?_
    simp only [Act.put, List.setIfInBounds_toArray, List.set_cons_zero, List.set_cons_succ]
    (refine quiet_ex rfl ?_; apply Exists.intro; refine ⟨fun W hW => ?_, ?_⟩)
    · have c := eqin_D z z2 W; rw [decide_eq_true Hzz.out] at c; go_simp; try with_reducible rfl
    simp only [Act.put, List.setIfInBounds_toArray, List.set_cons_zero, List.set_cons_succ]
    (refine quiet_ex rfl ?_; apply Exists.intro; refine ⟨fun W hW => ?_, ?_⟩)
    · go_simp; try with_reducible rfl
    simp only [Act.put, List.setIfInBounds_toArray, List.set_cons_zero, List.set_cons_succ]
    (refine quiet_ex rfl ?_; apply Exists.intro; refine ⟨fun W hW => ?_, ?_⟩)
    · go_simp; try with_reducible rfl
    simp only [Act.put, List.setIfInBounds_toArray, List.set_cons_zero, List.set_cons_succ]
    (refine quiet_ex rfl ?_; apply Exists.intro; refine ⟨fun W hW => ?_, ?_⟩)
    · go_simp; try with_reducible rfl
    simp only [Act.put, List.setIfInBounds_toArray, List.set_cons_zero, List.set_cons_succ]
    (refine quiet_ex rfl ?_; apply Exists.intro; refine ⟨fun W hW => ?_, ?_⟩)
    · go_simp; try with_reducible rfl
    simp only [Act.put, List.setIfInBounds_toArray, List.set_cons_zero, List.set_cons_succ]
    (refine quiet_ex rfl ?_; apply Exists.intro; refine ⟨fun W hW => ?_, ?_⟩)
    · go_simp; try with_reducible rfl
    simp only [Act.put, List.setIfInBounds_toArray, List.set_cons_zero, List.set_cons_succ]
    (refine quiet_ex rfl ?_; apply Exists.intro; refine ⟨fun W hW => ?_, ?_⟩)
    · go_simp; try with_reducible rfl
    simp only [Act.put, List.setIfInBounds_toArray, List.set_cons_zero, List.set_cons_succ]
    (refine quiet_ex rfl ?_; apply Exists.intro; refine ⟨fun W hW => ?_, ?_⟩)
    · go_simp; try with_reducible rfl
    simp only [Act.put, List.setIfInBounds_toArray, List.set_cons_zero, List.set_cons_succ]
    refine quiet_load_row rfl 24 (.tmp 3) rfl (w.heap.size) rfl _ ((us a.1)) (0, 0) _ (fun W hW => hW.2.2.one) Tryd.underlying24 rfl (by rw [S1.out]; kernel_rfl) ?_
    simp only [Act.put, List.setIfInBounds_toArray, List.set_cons_zero, List.set_cons_succ]
    refine quiet_load_row rfl 24 (.tmp 4) rfl ((w.heap.size + 1)) rfl _ ((us b.1)) (0, 0) _ (fun W hW => hW.2.2.two) Tryd.underlying24 rfl (by rw [S2.out]; kernel_rfl) ?_
    simp only [Act.put, List.setIfInBounds_toArray, List.set_cons_zero, List.set_cons_succ]
    (refine quiet_ex rfl ?_; apply Exists.intro; refine ⟨fun W hW => ?_, ?_⟩)
    · go_simp; try with_reducible rfl
    simp only [Act.put, List.setIfInBounds_toArray, List.set_cons_zero, List.set_cons_succ]
    (refine quiet_at rfl ⟨.bool ck, fun W hW => ?_, ?_⟩)
    · go_simp; exact (cA.out _ hW.2.2.pla hW.2.2.sl).mono (fun e w' h => ⟨h.1, hW.1.grow h.2, hW.2.1.grow h.2, hW.2.2.grow h.2⟩)
    simp only [Act.put, List.setIfInBounds_toArray, List.set_cons_zero, List.set_cons_succ]
    refine quiet_load_row rfl 24 (.tmp 3) rfl (w.heap.size) rfl _ ((us a.1)) (0, 0) _ (fun W hW => hW.2.2.one) Tryd.underlying24 rfl (by rw [S1.out]; kernel_rfl) ?_
    simp only [Act.put, List.setIfInBounds_toArray, List.set_cons_zero, List.set_cons_succ]
    refine quiet_load_row rfl 24 (.tmp 4) rfl ((w.heap.size + 1)) rfl _ ((us b.1)) (0, 0) _ (fun W hW => hW.2.2.two) Tryd.underlying24 rfl (by rw [S2.out]; kernel_rfl) ?_
    simp only [Act.put, List.setIfInBounds_toArray, List.set_cons_zero, List.set_cons_succ]
    (refine quiet_ex rfl ?_; apply Exists.intro; refine ⟨fun W hW => ?_, ?_⟩)
    · go_simp; try with_reducible rfl
    simp only [Act.put, List.setIfInBounds_toArray, List.set_cons_zero, List.set_cons_succ]
    (refine quiet_at rfl ⟨.bool ck, fun W hW => ?_, ?_⟩)
    · go_simp; exact (cB.out _ hW.2.2.sl).mono (fun e w' h => ⟨h.1, hW.1.grow h.2, hW.2.1.grow h.2, hW.2.2.grow h.2⟩)
    simp only [Act.put, List.setIfInBounds_toArray, List.set_cons_zero, List.set_cons_succ]
    (refine quiet_ex rfl ?_; apply Exists.intro; refine ⟨fun W hW => ?_, ?_⟩)
    · go_simp; try with_reducible rfl
    simp only [Act.put, List.setIfInBounds_toArray, List.set_cons_zero, List.set_cons_succ]
    (refine quiet_ex rfl ?_; apply Exists.intro; refine ⟨fun W hW => ?_, ?_⟩)
    · go_simp; try with_reducible rfl
    simp only [Act.put, List.setIfInBounds_toArray, List.set_cons_zero, List.set_cons_succ]
    (refine quiet_ex rfl ?_; apply Exists.intro; refine ⟨fun W hW => ?_, ?_⟩)
    · go_simp; try with_reducible rfl
    simp only [Act.put, List.setIfInBounds_toArray, List.set_cons_zero, List.set_cons_succ]
    refine quiet_load_row rfl 24 (.tmp 7) rfl (k7) rfl _ ((us z.1)) (0, 0) _ (fun W hW => hW.2.1) Tryd.underlying24 rfl (by rw [sz1]; kernel_rfl) ?_
    simp only [Act.put, List.setIfInBounds_toArray, List.set_cons_zero, List.set_cons_succ]
    refine quiet_load_row rfl 24 (.tmp 4) rfl ((w.heap.size + 1)) rfl _ ((us b.1)) (0, 0) _ (fun W hW => hW.2.2.two) Tryd.underlying24 rfl (by rw [S2.out]; kernel_rfl) ?_
    simp only [Act.put, List.setIfInBounds_toArray, List.set_cons_zero, List.set_cons_succ]
    (refine quiet_ex rfl ?_; apply Exists.intro; refine ⟨fun W hW => ?_, ?_⟩)
    · go_simp; try with_reducible rfl
    simp only [Act.put, List.setIfInBounds_toArray, List.set_cons_zero, List.set_cons_succ]
    (refine quiet_at rfl ⟨.bool bb, fun W hW => ?_, ?_⟩)
    · go_simp; exact (cC.out _ hW.2.2.pla hW.2.2.sl).mono (fun e w' h => ⟨h.1, hW.1.grow h.2, hW.2.1.grow h.2, hW.2.2.grow h.2⟩)
    simp only [Act.put, List.setIfInBounds_toArray, List.set_cons_zero, List.set_cons_succ]
    (refine quiet_ex rfl ?_; apply Exists.intro; refine ⟨fun W hW => ?_, ?_⟩)
    · go_simp; try with_reducible rfl
    simp only [Act.put, List.setIfInBounds_toArray, List.set_cons_zero, List.set_cons_succ]
    (refine quiet_ex rfl ?_; apply Exists.intro; refine ⟨fun W hW => ?_, ?_⟩)
    · go_simp; try with_reducible rfl
    simp only [Act.put, List.setIfInBounds_toArray, List.set_cons_zero, List.set_cons_succ]
    (refine quiet_ex rfl ?_; apply Exists.intro; refine ⟨fun W hW => ?_, ?_⟩)
    · go_simp; try with_reducible rfl
    simp only [Act.put, List.setIfInBounds_toArray, List.set_cons_zero, List.set_cons_succ]
    (refine quiet_ex rfl ?_; apply Exists.intro; refine ⟨fun W hW => ?_, ?_⟩)
    · go_simp; try with_reducible rfl
    simp only [Act.put, List.setIfInBounds_toArray, List.set_cons_zero, List.set_cons_succ]
    refine wpQuiet_nil ?_
    intro w6 h6
    go_wp2_with fail
    go_ret
    exact ⟨rfl, h6.2.2.gro⟩
end Go.Proofs.YteiimkglmiadbaaDoor
