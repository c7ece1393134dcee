/- seedcornref05.Reach and Check: what they return is what the plain functions give; the heap only grows. -/
import Derived.Test.YtjokaennipmmaaaDoorRSign
namespace Go.Proofs.YtjokaennipmmaaaDoor
open Go.RowKit
def valsTo (msg : D) (s : List D) (n : Nat) : List D := (List.range n).map fun i => walkE (s.getD i D.zero) (15 - (stepsE msg).getD i 0)
theorem valsTo_succ (msg : D) (s : List D) (n : Nat) : valsTo msg s (n + 1) = valsTo msg s n ++ [walkE (s.getD n D.zero) (15 - (stepsE msg).getD n 0)] := by simp [valsTo, List.range_succ]
theorem valsTo_getD (msg : D) (s : List D) (n i : Nat) (hi : i < n) : (valsTo msg s n).getD i D.zero = walkE (s.getD i D.zero) (15 - (stepsE msg).getD i 0) := by simp [valsTo, hi]
structure RRcAt (w wr : World) (gs cs : Nat) (A : Option Addr) (c : Nat) (msg : D) (s : List D) : Prop where
  res : Blk wr (w.heap.size + 1) 30 (us D.zero.1)
  st : wr.ownsRow 0 3 1 (.slice (some ⟨gs, 0, none⟩) 35 cs) 35 (ints (stepsE msg))
  sl : SlD wr A 35 c s
  gro : Grow w wr
set_option maxRecDepth 100000 in
set_option maxHeartbeats 2000000 in
theorem rreach_c (msg : D) (A : Option Addr) (n c : Nat) (s : List D) (w : World) (hs : SlD w A n c s) :
    Calls Tryd.prog 41 #[.agg (us msg.1), .slice A n c] w fun e w' => e = .returned (.tuple #[.agg (us (reachP msg s).1.1), .bool (reachP msg s).2]) ∧ Grow w w' := by
  by_cases hn : n = 35
  · subst hn
    have hr : reachP msg s = (reachE msg s, true) := by unfold reachP; rw [if_pos hs.2.2.1]
    rw [hr]
    clear hr
    have HS := Lib.hid hs
    clear hs
    have h35 : (((35 : Nat) : Int) != 35) = false := by decide
    go_enter Tryd.func41, Tryd.ntmps41
    go_upto_region 1 with (fail)
    refine wp_gen (fun W => RWalkAt w W msg) ⟨(Blk.new _ _ _).alloc _, Blk.new1 _ _ _ _, ((Below.refl w.heap.size w).alloc (Nat.le_refl _) _).alloc (by simp) _⟩ ?_
    intro w1 h1
    have H1 := Lib.hid h1
    have hM := h1.box
    have sm := msg.sz
    clear h1
    go_wp2_with (refine wpList_load_row_g rfl 30 (.tmp 2) rfl (w.heap.size) rfl _ (us msg.1) (0, 0) _ hM Tryd.underlying30 rfl (by rw [sm]; kernel_rfl) ?_)
    clear hM
    refine (rsteps_c msg _).mono ?_
    rintro e w3 ⟨vs, rfl, hst, hg⟩
    obtain ⟨gs, cs, rfl, -, -, -, -⟩ := own_ints hst (by omega)
    have H3 := Lib.hid (RRcAt.mk (H1.out.res.grow hg) (ownsRow_base hst (Nat.zero_le _)) (HS.out.grow (H1.out.bel.tr hg)) (H1.out.bel.tr hg) : RRcAt w w3 gs cs A c msg s)
    clear hst hg
    obtain ⟨g, o, rfl, hgl, hgc⟩ := H3.out.sl.2.2.2 (by omega)
    have hcs := Lib.hid H3.out.sl.1
    have Hgc := Lib.hid (And.intro hgl hgc)
    clear hgl hgc
    have R0 := Lib.hid (World.ownsRow_nil w3 w3.heap.size 30 4)
    go_wp2_with fail
    clear h35
    go_loopw [7, 8] (fun v i wr => ∃ j : Nat, j ≤ 35 ∧ i = .int .i64 j ∧ wr.ownsRow w3.heap.size 30 4 v j (dcells (valsTo msg s j)) ∧ Grow w3 wr) (fun _ i _ => 35 - (intOf i).toNat)
    case atStart => exact ⟨0, by omega, rfl, R0.out, Grow.refl _⟩
    case round =>
      obtain ⟨j, hj, rfl, hO, hN⟩ := hrel
      have HO := Lib.hid hO
      have HN := Lib.hid hN
      clear hO hN R0
      by_cases hlt : j < 35
      · have hj1 : decide ((j : Int) < 35) = true := by simp; omega
        have b1 : (0 : Int) ≤ j := by omega
        have b2 : (j : Int) < 35 := by omega
        have hcell := Lib.hid (fun W (hW : Grow w3 W) => own_ints_lit H3.out.st (by omega) W hW j hlt)
        have hdc := Lib.hid (fun W (hW : Grow w3 W) k (hk : k < 4) => (hW.cell (p := ⟨g, o + j * 4 + k, none⟩) Hgc.out.1).trans (Hgc.out.2 j k hlt hk))
        have hdl := stepsE_getD_lt msg j
        have Hsu := Lib.hid (valsTo_succ msg s j)
        generalize (stepsE msg).getD j 0 = d at *
        generalize s.getD j D.zero = x at *
        have rw_ := Lib.hid (fun W => rwalk_c x (15 - d) W (by omega))
        generalize walkE x (15 - d) = y at *
        generalize hsg : valsTo msg s j = l at *
        clear hsg
        have b3 : IntKind.i64.wrap ((15 : Int) - (d : Int)) = ((15 - d : Nat) : Int) := by rw [IntKind.wrap_i64]; omega
        go_upto_region 8 with (fail)
        refine wp_region_anyR 13 (fun W => Grow w3 W) (fun W => W.ownsRow w3.heap.size 30 4 u7 j (dcells l)) (by kernel_rfl) (by kernel_rfl) HN.out.drew (ownsRow_grow HO.out (Grow.refl _).drew) ?_
        have hS : Stab (fun W => W.ownsRow w3.heap.size 30 4 u7 j (dcells l)) := fun _ _ h g => ownsRow_grow h g
        (refine anyC_val (i := 0) (some 19) rfl rfl (by kernel_rfl) (fun _ _ _ _ h => h) (by assumption) rfl ?_; apply Exists.intro; refine ⟨fun W hW => ?_, ?_⟩)
        · go_simp; try with_reducible rfl
        simp only [Act.put, List.setIfInBounds_toArray, List.set_cons_zero, List.set_cons_succ]
        (refine anyC_val (i := 1) (some 20) rfl rfl (by kernel_rfl) (fun _ _ _ _ h => h) (by assumption) rfl ?_; apply Exists.intro; refine ⟨fun W hW => ?_, ?_⟩)
        · go_simp; try with_reducible rfl
        simp only [Act.put, List.setIfInBounds_toArray, List.set_cons_zero, List.set_cons_succ]
        (refine anyC_val (i := 2) (some 21) rfl rfl (by kernel_rfl) (fun _ _ _ _ h => h) (by assumption) rfl ?_; apply Exists.intro; refine ⟨fun W hW => ?_, ?_⟩)
        · go_simp; try with_reducible rfl
        simp only [Act.put, List.setIfInBounds_toArray, List.set_cons_zero, List.set_cons_succ]
        (refine anyC_val (i := 3) (some 22) rfl rfl (by kernel_rfl) (fun _ _ _ _ h => h) (by assumption) rfl ?_; apply Exists.intro; refine ⟨fun W hW => ?_, ?_⟩)
        · go_simp; try with_reducible rfl
        simp only [Act.put, List.setIfInBounds_toArray, List.set_cons_zero, List.set_cons_succ]
        (refine anyC_val (i := 4) (some 23) rfl rfl (by kernel_rfl) (fun _ _ _ _ h => h) (by assumption) rfl ⟨_, fun W hW => run_load_D 30 (.tmp 22) rfl g (o + j * 4) rfl x (hdc.out W hW) _ Tryd.underlying30 hi_D, ?_⟩)
        simp only [Act.put, List.setIfInBounds_toArray, List.set_cons_zero, List.set_cons_succ]
        (refine anyC_val (i := 5) (some 24) rfl rfl (by kernel_rfl) (fun _ _ _ _ h => h) (by assumption) rfl ?_; apply Exists.intro; refine ⟨fun W hW => ?_, ?_⟩)
        · go_simp; try with_reducible rfl
        simp only [Act.put, List.setIfInBounds_toArray, List.set_cons_zero, List.set_cons_succ]
        (refine anyC_val (i := 6) (some 25) rfl rfl (by kernel_rfl) (fun _ _ _ _ h => h) (by assumption) rfl ?_; apply Exists.intro; refine ⟨fun W hW => ?_, ?_⟩)
        · go_simp; try with_reducible rfl
        simp only [Act.put, List.setIfInBounds_toArray, List.set_cons_zero, List.set_cons_succ]
        (refine anyC_val (i := 7) (some 26) rfl rfl (by kernel_rfl) (fun _ _ _ _ h => h) (by assumption) rfl ?_; apply Exists.intro; refine ⟨fun W hW => ?_, ?_⟩)
        · go_simp; try with_reducible rfl
        simp only [Act.put, List.setIfInBounds_toArray, List.set_cons_zero, List.set_cons_succ]
        (refine anyC_val (i := 8) (some 27) rfl rfl (by kernel_rfl) (fun _ _ _ _ h => h) (by assumption) rfl ?_; apply Exists.intro; refine ⟨fun W hW => ?_, ?_⟩)
        · have c := hcell.out W hW; go_simp; try with_reducible rfl
        simp only [Act.put, List.setIfInBounds_toArray, List.set_cons_zero, List.set_cons_succ]
        (refine anyC_val (i := 9) (some 28) rfl rfl (by kernel_rfl) (fun _ _ _ _ h => h) (by assumption) rfl ?_; apply Exists.intro; refine ⟨fun W hW => ?_, ?_⟩)
        · go_simp; try with_reducible rfl
        simp only [Act.put, List.setIfInBounds_toArray, List.set_cons_zero, List.set_cons_succ]
        (refine anyC_call (i := 10) (some 29) (.agg (us y.1)) rfl rfl (by kernel_rfl) (fun _ _ _ h => h) (by assumption) rfl (fun W hW => ?_) ?_)
        · go_simp; exact (rw_.out _).mono (fun e w' h => ⟨h.1, hW.tr h.2, h.2⟩)
        simp only [Act.put, List.setIfInBounds_toArray, List.set_cons_zero, List.set_cons_succ]
        refine anyC_one (i := 11) (by kernel_rfl) (fun W hW hR => ?_)
        refine wpOp_of_list rfl (fun Q' hK => ?_)
        refine wpList_buildSlice_D rfl 22 30 (.tmp 29) rfl #[.int .u32 0, .int .u32 0, .int .u32 0, .int .u32 0] 16 rfl Tryd.underlying22 info_D y rfl ?_
        have ha : Grow W _ := Below.alloc (Grow.refl W) (Nat.le_refl _) (Obj.cells (y.1.map u).toArray 30)
        obtain ⟨b0, hb0⟩ : ∃ b, b = W.heap.size := ⟨_, rfl⟩
        have hbk : Blk (W.alloc (Obj.cells (y.1.map u).toArray 30)) b0 30 (y.1.map u).toArray := hb0 ▸ Blk.new _ _ _
        refine hK _ _ ⟨hW.tr ha, (fun x => x.ownsRow w3.heap.size 30 4 u7 j (dcells l) ∧ Blk x b0 30 (y.1.map u).toArray), (fun _ _ h g => ⟨ownsRow_grow h.1 g, h.2.grow g⟩), ⟨ownsRow_grow hR ha, hbk⟩, ?_⟩
        rw [← hb0]
        clear hb0 hW hR ha hbk hK
        simp only [Act.put, List.setIfInBounds_toArray]
        refine anyC_one (i := 12) (by kernel_rfl) (fun W2 hW2 hR2 => ?_)
        refine wpOp_of_list rfl (fun Q' hK => ?_)
        refine wpList_append_blk rfl (.tmp 19) (.tmp 30) 22 rfl w3.heap.size 30 (.agg #[.int .u32 0, .int .u32 0, .int .u32 0, .int .u32 0]) 4 16 Tryd.underlying22 info_D rfl (by omega) _ j _ rfl hR2.1 b0 1 1 (y.1.map u) rfl hR2.2 (by simp [y.2]) (us_news y) (by simp only [maxLen]; omega) (by omega) hW2.size ?_
        intro v' w4 hown' hbel' _
        refine hK _ _ ⟨Below.trans hW2 hbel', (fun x => x.ownsRow w3.heap.size 30 4 v' (j + 1) (dcells l ++ y.1.map u)), (fun _ _ h g => ownsRow_grow h g), hown', ?_⟩
        clear hbel' hown' hR2 hW2 hK
        simp only [Act.put]
        refine anyC_tail_lit (by kernel_rfl) (fun w5 h5 hR => ?_)
        simp only [List.drop_succ_cons, List.drop_zero]
        go_wp2_with fail
        go_roundw
        case rel => exact ⟨j + 1, by omega, by go_num, by rw [Hsu.out, dcells_append, dcells_one]; exact hR, h5⟩
        case measure => simp [intOf]; omega
      · have e8 : j = 35 := by omega
        subst e8
        obtain ⟨A', c', hv, hs'⟩ := SlD.of_own HO.out
        have HS' := Lib.hid hs'
        have Hv := Lib.hid hv
        clear hs' hv
        go_wp2_with fail
        rw [Hv.out]
        refine (rotof_c A' c' _ _ HS'.out).mono ?_
        rintro e w5 ⟨rfl, hg5⟩
        have G5 := Lib.hid (HN.out.tr hg5)
        have hR := H3.out.res.grow G5.out
        clear hg5
        rw [rof_congr (fun i => walkE (s.getD i D.zero) (15 - (stepsE msg).getD i 0)) _ (fun i hi => valsTo_getD msg s 35 i hi)]
        have hz : ofTo (fun i => walkE (s.getD i D.zero) (15 - (stepsE msg).getD i 0)) 35 = reachE msg s := rfl
        rw [hz]
        clear hz
        have s2 := (reachE msg s).sz
        have o2 := (reachE msg s).one
        generalize hz : reachE msg s = z at *
        have Hz := Lib.hid hz
        clear hz
        go_wp2_with (refine wpList_store_row rfl 30 (.tmp 4) (.tmp 33) rfl (w.heap.size + 1) (us z.1) rfl rfl _ _ hR (by rw [s2]; kernel_rfl) (by rw [s2]; exact D.zero.sz) o2 ?_)
        refine bodyPost_ret (results_row_tmp (p := 4) (q := 5) (ty := 30) rfl _ _ (w.heap.size + 1) _ (us z.1) (0, 0) _ rfl (setRow_heap _ _ _ _ _ _ hR) Tryd.underlying30 rfl (by rw [s2]; kernel_rfl)) rfl ⟨by first | rfl | (rw [Hz.out]; rfl), ?_⟩
        exact (H3.out.gro.tr G5.out).setRow (by omega) _
  · have hr : reachP msg s = (D.zero, false) := by unfold reachP; rw [if_neg (by rw [hs.2.2.1]; exact hn)]
    rw [hr]
    clear hr hs
    have h35 : ((n : Int) != 35) = true := by rw [bne_iff_ne]; omega
    clear hn
    go_enter Tryd.func41, Tryd.ntmps41
    go_upto_region 1 with (fail)
    refine wp_gen (fun W => RWalkAt w W msg) ⟨(Blk.new _ _ _).alloc _, Blk.new1 _ _ _ _, ((Below.refl w.heap.size w).alloc (Nat.le_refl _) _).alloc (by simp) _⟩ ?_
    intro w1 h1
    have hR := h1.res
    have H1 := Lib.hid h1
    have s2 := D.zero.sz
    have o2 := D.zero.one
    clear h1
    go_wp2_with (refine wpList_store_row rfl 30 (.tmp 4) (.tmp 12) rfl (w.heap.size + 1) (us D.zero.1) rfl rfl _ _ hR (by rw [s2]; kernel_rfl) rfl o2 ?_)
    refine bodyPost_ret (results_row_tmp (p := 4) (q := 5) (ty := 30) rfl _ _ (w.heap.size + 1) _ (us D.zero.1) (0, 0) _ rfl (setRow_heap _ _ _ _ _ _ hR) Tryd.underlying30 rfl (by rw [s2]; kernel_rfl)) rfl ⟨rfl, ?_⟩
    exact H1.out.bel.setRow (by omega) _
end Go.Proofs.YtjokaennipmmaaaDoor
