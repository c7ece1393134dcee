/- digest.Of: the digest of bytes. -/
import Derived.Test.YtamllmoakgnjoaaDoorFour
import Derived.Test.YtamllmoakgnjoaaDoorOwnB
namespace Go.Proofs.YtamllmoakgnjoaaDoor
open Go.RowKit
structure OfAt (w0 w : World) (x : List UInt32) : Prop where
  res : Blk w w0.heap.size 27 (us D.zero.1)
  box : Blk w (w0.heap.size + 1) 91 (us x)
  gro : Grow w0 w
  pla : Places w
  gp : 0 < w0.heap.size
theorem OfAt.grow {w0 w w' : World} {x : List UInt32} (h : OfAt w0 w x) (hg : Grow w w') : OfAt w0 w' x := ⟨h.res.grow hg, h.box.grow hg, h.gro.tr hg, h.pla.grow hg, h.gp⟩
theorem OfAt.store {w0 w : World} {x y : List UInt32} (h : OfAt w0 w x) : OfAt w0 (w.setRow (w0.heap.size + 1) (us y)) y :=
  ⟨h.res.setRow_far (by omega) _, h.box.setRow _, h.gro.setRow (by omega) _, h.pla.under ((Below.refl (w0.heap.size + 1) w).setRow (Nat.le_refl _) _) (by have := h.gp; omega), h.gp⟩
theorem zeros_not (n z : Nat) (h : z < zerosE n) : (n + 1 + z) % 16 ≠ 8 := by unfold zerosE at h; omega
theorem extract_drop (l : List UInt8) (k : Nat) : (ByteArray.mk l.toArray).extract k l.length = ⟨(l.drop k).toArray⟩ := by
  have := ByteArray.ext_iff.2 (show ((ByteArray.mk l.toArray).extract k l.length).data = (l.drop k).toArray by
    rw [ByteArray.data_extract]; simp [List.take_of_length_le (show (l.drop k).length ≤ l.length - k by simp)])
  exact this
/-- The row that is being filled up to the frame. -/
structure RestAt (w0 w : World) (v : Value) (b : List UInt8) : Prop where
  own : OwnB w w0.heap.size 5 v b.length (bys b)
  gro : Grow w0 w
set_option maxRecDepth 100000 in
set_option maxHeartbeats 2000000 in
theorem of_c (l : List UInt8) (w : World) (hm : l.length ≤ 1000000) (hP : Places w) :
    Calls Tryd.prog 64 #[.string ⟨l.toArray⟩] w fun e w' => e = .returned (.agg (us (ofE l).1)) ∧ Grow w w' := by
  have HP := Lib.hid hP
  clear hP
  have hsz : (ByteArray.mk l.toArray).size = l.length := by simp [ByteArray.size]
  have Hsz := Lib.hid hsz
  go_enter Tryd.func64, Tryd.ntmps64
  go_upto_region 2 with (fail)
  have hg0 := ((Below.refl w.heap.size w).alloc (Nat.le_refl _) (.cells (us D.zero.1) 27)).alloc (by simp) (.cells (us [1, 0, 0, 0, 0, 0, 0, 0]) 91)
  refine wp_gen (fun W => OfAt w W (absE l 0)) ⟨(Blk.new _ _ _).alloc _, Blk.new1 _ _ _ _, hg0, HP.out.grow hg0, HP.out.1⟩ ?_
  clear hg0
  intro w1 h1
  have H1 := Lib.hid h1
  clear h1
  obtain ⟨q, hq⟩ : ∃ q, q = l.length / 16 := ⟨_, rfl⟩
  have f1 : (l.length : Int) / 16 = (q : Int) := by omega
  have hq1 : q * 16 ≤ l.length := by omega
  have Hq := Lib.hid hq
  clear hq
  go_wp2_with fail
  clear f1
  go_loopw [5] (fun i wr => ∃ k : Nat, k ≤ q ∧ i = .int .i64 (16 * (k : Int)) ∧ OfAt w wr (absE l k)) (fun i _ => q * 16 - (intOf i).toNat)
  case atStart => exact ⟨0, by omega, rfl, H1.out⟩
  case round =>
    obtain ⟨k, hk, rfl, hN⟩ := hrel
    have HN := Lib.hid hN
    clear hN H1
    by_cases hlt : k < q
    · have hj1 : decide (16 * (k : Int) < (q : Int) * 16) = true := by simp; omega
      have HL := Lib.hid (absE_length l k)
      have Hs := Lib.hid (show absE l (k + 1) = takeIn (absE l k) (blkE l (16 * k)).1 from rfl)
      have r4 := Lib.hid (fun W => four_c l (16 * k) W (by omega) (by omega))
      have hsx : (us (absE l k)).size = 8 := by simp [us, absE_length]
      generalize absE l k = x at *
      generalize blkE l (16 * k) = b at *
      have rt := Lib.hid (fun W hW => take_any x b.1 HL.out b.2 W hW)
      have hly : (takeIn x b.1).length = 8 := (takeIn_length _ _).trans HL.out
      have hsy : (us (takeIn x b.1)).size = 8 := by simp [us, hly]
      have hony := us_one (takeIn x b.1)
      generalize hy : takeIn x b.1 = y at *
      have Hsx := Lib.hid hsx
      clear hsx hly hy
      go_upto_region 6 with (fail)
      refine wp_region_tail 5 (fun W => OfAt w W x) (by kernel_rfl) (by kernel_rfl) (HN.out.grow (Grow.refl _).drew) ?_
      simp only [List.take_succ_cons, List.take_zero]
      refine quiet_load_row rfl 91 (.tmp 3) rfl ((w.heap.size + 1)) rfl _ ((us x)) (0, 0) _ (fun W hW => hW.box) Tryd.underlying91 rfl (by rw [Hsx.out]; kernel_rfl) ?_
      simp only [Act.put, List.setIfInBounds_toArray, List.set_cons_zero, List.set_cons_succ]
      (refine quiet_ex rfl ?_; apply Exists.intro; refine ⟨fun W hW => ?_, ?_⟩)
      · go_simp; try with_reducible rfl
      simp only [Act.put, List.setIfInBounds_toArray, List.set_cons_zero, List.set_cons_succ]
      (refine quiet_ex rfl ?_; apply Exists.intro; refine ⟨fun W hW => ?_, ?_⟩)
      · go_simp; try with_reducible rfl
      simp only [Act.put, List.setIfInBounds_toArray, List.set_cons_zero, List.set_cons_succ]
      (refine quiet_at rfl ⟨.agg (us b.1), fun W hW => ?_, ?_⟩)
      · go_simp; exact (r4.out _).mono (fun e w' h => ⟨h.1, hW.grow h.2⟩)
      simp only [Act.put, List.setIfInBounds_toArray, List.set_cons_zero, List.set_cons_succ]
      (refine quiet_at rfl ⟨.agg (us y), fun W hW => ?_, ?_⟩)
      · go_simp; exact (rt.out _ hW.pla).mono (fun e w' h => ⟨h.1, hW.grow h.2⟩)
      simp only [Act.put, List.setIfInBounds_toArray, List.set_cons_zero, List.set_cons_succ]
      refine wpQuiet_nil ?_
      intro w4 h4
      have hB := h4.box
      have H4 := Lib.hid h4
      clear h4
      simp only [List.drop_succ_cons, List.drop_zero]
      go_wp2_with (refine wpList_store_row rfl 91 (.tmp 3) (.tmp 24) rfl (w.heap.size + 1) (us y) rfl rfl _ _ hB (by rw [hsy]; kernel_rfl) (by rw [hsy, Hsx.out]) hony ?_)
      go_roundw
      case rel => exact ⟨k + 1, by omega, by go_num, by rw [Hs.out]; exact H4.out.store⟩
      case measure => simp [intOf]; omega
    · have e : k = q := by omega
      subst e
      have hj1 : decide (16 * (k : Int) < (k : Int) * 16) = false := by simp; omega
      have hex := extract_drop l (k * 16)
      have hcv := fun W => Lib.run_convert_string_bytes (P := Tryd.prog) W 9 107 5 ⟨(l.drop (k * 16)).toArray⟩ Tryd.underlying9 Tryd.underlying107 Tryd.underlying5
      have hdl : (l.drop (k * 16)).length = l.length - k * 16 := List.length_drop
      have Hdl := Lib.hid hdl
      have hds : (ByteArray.mk (l.drop (k * 16)).toArray).size = (l.drop (k * 16)).length := by simp [ByteArray.size]
      clear hdl
      generalize hd : l.drop (k * 16) = d at *
      have Hd := Lib.hid hd
      clear hd
      have hb0 := bytesWorld_own wr 5 d (by rw [Hdl.out]; simp only [maxLen]; omega)
      have hgw := Lib.hid (bytesWorld_grow wr 5 ⟨d.toArray⟩)
      have Hb0 := Lib.hid hb0
      clear hb0
      go_wp2_with (at_builtin; refine wpList_append_B1 rfl (.tmp 28) (.tmp 29) 107 rfl wr.heap.size 5 (.int .u8 0) 1 Tryd.underlying107 info_u8 rfl _ d.length _ rfl Hb0.out 1 (.int .u8 128) rfl rfl (by rw [Hdl.out]; simp only [maxLen]; omega) (by rw [Hdl.out]; omega) ?_; intro v' w5 hown' hbel')
      clear hcv hex hds
      have HR := Lib.hid (RestAt.mk (by rw [List.length_append, bys_append]; exact hown') (hgw.out.trans hbel') : RestAt wr w5 v' (d ++ [128]))
      clear hown' hbel' hj1
      have H5 := Lib.hid (HN.out.grow HR.out.gro)
      obtain ⟨zn, hzn⟩ : ∃ z, z = zerosE l.length := ⟨_, rfl⟩
      have Hzn := Lib.hid hzn
      clear hzn
      have Hmod := Lib.hid (show d.length % 16 = l.length % 16 by rw [Hdl.out]; have := Hq.out; omega)
      obtain ⟨wo, hwo⟩ : ∃ wo : World, wo = wr := ⟨_, rfl⟩
      subst hwo
      go_loopw [6] (fun v W => ∃ (n g cap : Nat), d.length + 1 ≤ n ∧ n ≤ d.length + 1 + zn ∧ v = .slice (some ⟨g, 0, none⟩) n cap ∧ RestAt wo W v (d ++ [128] ++ List.replicate (n - (d.length + 1)) 0)) (fun v _ => zn + d.length + 1 - (match v with | .slice _ n _ => n | _ => 0))
      case atStart =>
        obtain ⟨_, g, cap, _, _, hv, _⟩ := HR.out.own
        refine ⟨d.length + 1, g, cap, by omega, by omega, ?_, by rw [Nat.sub_self, List.replicate_zero, List.append_nil]; exact HR.out⟩
        rw [hv]; simp
      case round =>
        obtain ⟨n, g, cap, hn1, hn2, rfl, hM⟩ := hrel
        have HM := Lib.hid hM
        clear hM HR
        have hdb : d.length ≤ 1000000 := by have := Hdl.out; omega
        have hzb : zn < 16 := by rw [Hzn.out]; exact zerosE_lt _
        by_cases hlt : n < d.length + 1 + zn
        · obtain ⟨r, hr⟩ : ∃ r, r = n % 16 := ⟨_, rfl⟩
          have t1 : (n : Int).tmod 16 = (r : Int) := by rw [Int.tmod_eq_emod_of_nonneg (by omega)]; omega
          have t2 : ((r : Int) != 8) = true := by
            have h1 := zeros_not l.length (n - (d.length + 1)) (by rw [← Hzn.out]; omega)
            have h2 := Hmod.out
            simp; omega
          clear hr
          have hl : (d ++ [128] ++ List.replicate (n - (d.length + 1)) (0 : UInt8)).length = n := by simp; omega
          have hown := HM.out.own
          rw [hl] at hown
          have Hown := Lib.hid hown
          have Hl := Lib.hid hl
          clear hown hl
          go_wp2_with (at_builtin; refine wpList_append_B1 rfl (.tmp 35) (.tmp 36) 107 rfl wo.heap.size 5 (.int .u8 0) 1 Tryd.underlying107 info_u8 rfl _ n _ rfl Hown.out 1 (.int .u8 0) rfl rfl (by simp only [maxLen]; omega) (by omega) ?_; intro v' w6 hown' hbel')
          obtain ⟨g', cap', hv'⟩ : ∃ g' cap', v' = .slice (some ⟨g', 0, none⟩) (n + 1) cap' := by
            obtain ⟨_, g', cap', _, _, hv, _⟩ := hown'
            exact ⟨g', cap', hv⟩
          subst hv'
          go_roundw
          case rel =>
            refine ⟨n + 1, g', cap', by omega, by omega, rfl, ?_, HM.out.gro.trans hbel'⟩
            rw [show n + 1 - (d.length + 1) = n - (d.length + 1) + 1 by omega, List.replicate_succ', ← List.append_assoc, List.length_append, bys_append, Hl.out]
            exact hown'
          case measure => simp; omega
        · have hne : n = d.length + 1 + zn := by omega
          obtain ⟨r, hr⟩ : ∃ r, r = n % 16 := ⟨_, rfl⟩
          have t1 : (n : Int).tmod 16 = (r : Int) := by rw [Int.tmod_eq_emod_of_nonneg (by omega)]; omega
          have t2 : ((r : Int) != 8) = false := by
            have h1 := zerosE_spec l.length
            rw [← Hzn.out] at h1
            have h2 := Hmod.out
            simp; omega
          clear hr
          rw [show n - (d.length + 1) = zn by omega] at HM
          have Hne := Lib.hid hne
          clear hne
          go_upto_region 11 with (fail)
          clear t1 t2
          have Hsl := Lib.hid HM.out.own.sl
          have Hfl := Lib.hid (show (d ++ [128] ++ List.replicate zn (0 : UInt8)).length = n by have := Hne.out; simp; omega)
          have Htl := Lib.hid (show tailE l = d ++ [128] ++ List.replicate zn 0 ++ bytesE [UInt32.ofNat l.length, UInt32.ofNat (l.length / 4294967296)] by unfold tailE; rw [← Hq.out, Hd.out, ← Hzn.out])
          generalize d ++ [128] ++ List.replicate zn 0 = F at *
          have hnb : n ≤ 1000020 := by have := Hne.out; omega
          have elo : IntKind.u32.wrap (l.length : Int) = ((UInt32.ofNat l.length).toNat : Int) := by rw [u32_ofNat_toNat]; rfl
          have eh1 : (l.length : Int) / 4294967296 = ((l.length / 4294967296 : Nat) : Int) := by simp
          have ehi : IntKind.u32.wrap ((l.length / 4294967296 : Nat) : Int) = ((UInt32.ofNat (l.length / 4294967296)).toNat : Int) := by rw [u32_ofNat_toNat]; rfl
          have Hbb := Lib.hid (show (bytesE [UInt32.ofNat l.length, UInt32.ofNat (l.length / 4294967296)]).length = 8 by rw [bytesE_length]; rfl)
          generalize UInt32.ofNat l.length = lo at *
          generalize UInt32.ofNat (l.length / 4294967296) = hi at *
          generalize l.length / 4294967296 = lh at *
          have had := Lib.hid (fun W => run_string_add_lists (P := Tryd.prog) (w := W) F (bytesE [lo, hi]) (by rw [Hfl.out]; omega) (by rw [Hbb.out]; omega))
          refine wp_region_anyC 10 (fun W => OfAt w W (absE l k) ∧ RestAt wo W (.slice (some ⟨g, 0, none⟩) n cap) F) (by kernel_rfl) (by kernel_rfl) ⟨(HN.out.grow HM.out.gro).grow (Grow.refl _).drew, HM.out.own.grow (Grow.refl _).drew, HM.out.gro.drew⟩ ?_
          have hS := Stab.true_
          (refine anyC_val (i := 0) (some 41) rfl rfl (by kernel_rfl) (fun _ _ _ _ h => h) (by assumption) rfl ?_; apply Exists.intro; refine ⟨fun W hW => ?_, ?_⟩)
          · go_simp; try with_reducible rfl
          simp only [Act.put, List.setIfInBounds_toArray, List.set_cons_zero, List.set_cons_succ]
          (refine anyC_val (i := 1) (some 42) rfl rfl (by kernel_rfl) (fun _ _ _ _ h => h) (by assumption) rfl ?_; apply Exists.intro; refine ⟨fun W hW => ?_, ?_⟩)
          · have c := run_string_of W 107 9 5 Tryd.underlying107 Tryd.underlying5 Tryd.underlying9 hW.2.own.sl; go_simp; try with_reducible rfl
          simp only [Act.put, List.setIfInBounds_toArray, List.set_cons_zero, List.set_cons_succ]
          (refine anyC_val (i := 2) (some 43) rfl rfl (by kernel_rfl) (fun _ _ _ _ h => h) (by assumption) rfl ?_; apply Exists.intro; refine ⟨fun W hW => ?_, ?_⟩)
          · go_simp; try with_reducible rfl
          simp only [Act.put, List.setIfInBounds_toArray, List.set_cons_zero, List.set_cons_succ]
          (refine anyC_val (i := 3) (some 44) rfl rfl (by kernel_rfl) (fun _ _ _ _ h => h) (by assumption) rfl ?_; apply Exists.intro; refine ⟨fun W hW => ?_, ?_⟩)
          · go_simp; try with_reducible rfl
          simp only [Act.put, List.setIfInBounds_toArray, List.set_cons_zero, List.set_cons_succ]
          (refine anyC_val (i := 4) (some 45) rfl rfl (by kernel_rfl) (fun _ _ _ _ h => h) (by assumption) rfl ?_; apply Exists.intro; refine ⟨fun W hW => ?_, ?_⟩)
          · go_simp; try with_reducible rfl
          simp only [Act.put, List.setIfInBounds_toArray, List.set_cons_zero, List.set_cons_succ]
          (refine anyC_val (i := 5) (some 46) rfl rfl (by kernel_rfl) (fun _ _ _ _ h => h) (by assumption) rfl ?_; apply Exists.intro; refine ⟨fun W hW => ?_, ?_⟩)
          · go_simp; try with_reducible rfl
          simp only [Act.put, List.setIfInBounds_toArray, List.set_cons_zero, List.set_cons_succ]
          (refine anyC_val (i := 6) (some 47) rfl rfl (by kernel_rfl) (fun _ _ _ _ h => h) (by assumption) rfl ?_; apply Exists.intro; refine ⟨fun W hW => ?_, ?_⟩)
          · go_simp; try with_reducible rfl
          simp only [Act.put, List.setIfInBounds_toArray, List.set_cons_zero, List.set_cons_succ]
          refine anyC_one (i := 7) (by kernel_rfl) (fun W hW _ => ?_)
          refine wpOp_of_list rfl (fun Q' hK => ?_)
          go_wp2_with fail
          have ha : Grow W _ := Below.alloc (Grow.refl W) (Nat.le_refl _) (Obj.cells (us [lo, hi]) 25)
          obtain ⟨b0, hb0⟩ : ∃ b, b = W.heap.size := ⟨_, rfl⟩
          have hbk : Blk (W.alloc (Obj.cells (us [lo, hi]) 25)) b0 25 (us [lo, hi]) := hb0 ▸ Blk.new _ _ _
          refine ⟨⟨hW.1.grow ha, hW.2.own.grow ha, hW.2.gro.tr ha⟩, (fun x => Blk x b0 25 (us [lo, hi])), (fun _ _ h g => h.grow g), hbk, ?_⟩
          rw [← hb0]
          clear hb0 hW ha hbk
          refine anyC_one (i := 8) (by kernel_rfl) (fun W hW hR => ?_)
          refine wpOp_call (some 49) rfl rfl rfl (by go_simp) ((bytes_c [lo, hi] _ 2 2 _ (by omega) (SlU.of_blk hR rfl (by simp [maxLen]))).mono ?_)
          rintro e w6 ⟨rfl, hg6⟩
          refine ⟨_, rfl, ⟨hW.1.grow hg6, hW.2.own.grow hg6, hW.2.gro.tr hg6⟩, (fun _ => True), Stab.true_, trivial, ?_⟩
          clear hW hR hg6
          have hS := Stab.true_
          simp only [Act.put, List.setIfInBounds_toArray, List.set_cons_zero, List.set_cons_succ]
          (refine anyC_val (i := 9) (some 50) rfl rfl (by kernel_rfl) (fun _ _ _ _ h => h) (by assumption) rfl ?_; apply Exists.intro; refine ⟨fun W hW => ?_, ?_⟩)
          · have c := had.out W; go_simp; try with_reducible rfl
          simp only [Act.put, List.setIfInBounds_toArray, List.set_cons_zero, List.set_cons_succ]
          refine anyC_tail_lit (by kernel_rfl) (fun w7 h7 _ => ?_)
          simp only [List.drop_succ_cons, List.drop_zero]
          rw [← Htl.out]
          have H7 := Lib.hid h7.1
          clear h7 HN HM H5 elo ehi eh1 hS
          have hb64 : l.length < 18446744073709551616 := by omega
          have Hown := Lib.hid (absE_own l hb64 k (by rw [Hq.out]; exact Nat.le_refl _))
          have Htail := Lib.hid (absE_tail l hb64)
          have Hend := Lib.hid (ofE_tail l hb64)
          have hTm := tailE_mod l hb64
          clear hb64
          rw [← Hq.out] at Htail Hend
          have hTs : (ByteArray.mk (tailE l).toArray).size = (tailE l).length := by simp [ByteArray.size]
          have hTl : (tailE l).length ≤ 1000100 := by rw [Htl.out, List.length_append, Hfl.out, Hbb.out]; omega
          rw [← Hown.out] at H7
          have HLn := Lib.hid (fun j => absE_length (padE l) j)
          generalize tailE l = T at *
          obtain ⟨N, hN⟩ : ∃ N, N = T.length := ⟨_, rfl⟩
          rw [← hN] at hTs hTl hTm Hend
          have HNl := Lib.hid hN
          clear hN
          obtain ⟨m, hm2⟩ : ∃ m, m = N / 16 := ⟨_, rfl⟩
          rw [← hm2] at Hend
          have hNm : N = 16 * m := by omega
          have HNm := Lib.hid hNm
          clear hNm hm2 hTm
          go_wp2_with fail
          obtain ⟨wp, hwp⟩ : ∃ wp : World, wp = w7 := ⟨_, rfl⟩
          subst hwp
          go_loopw [9] (fun i W => ∃ j : Nat, j ≤ m ∧ i = .int .i64 (16 * (j : Int)) ∧ OfAt w W (absE (padE l) (k + j))) (fun i _ => N - (intOf i).toNat)
          case atStart => exact ⟨0, by omega, rfl, H7.out⟩
          case round =>
            obtain ⟨j, hj, rfl, hM⟩ := hrel
            have HM := Lib.hid hM
            clear hM H7
            by_cases hlt : j < m
            · have hj1 : decide (16 * (j : Int) < (N : Int)) = true := by have := HNm.out; simp; omega
              have HL := Lib.hid (HLn.out (k + j))
              have Hs := Lib.hid (Htail.out j)
              have hjN : 16 * j + 16 ≤ N := by have := HNm.out; omega
              have r4 := Lib.hid (fun W => four_c T (16 * j) W (by rw [← HNl.out]; omega) (by rw [← HNl.out]; omega))
              have hsx : (us (absE (padE l) (k + j))).size = 8 := by simp [us, absE_length]
              generalize absE (padE l) (k + j) = x at *
              generalize blkE T (16 * j) = b at *
              have rt := Lib.hid (fun W hW => take_any x b.1 HL.out b.2 W hW)
              have hly : (takeIn x b.1).length = 8 := (takeIn_length _ _).trans HL.out
              have hsy : (us (takeIn x b.1)).size = 8 := by simp [us, hly]
              have hony := us_one (takeIn x b.1)
              generalize hy : takeIn x b.1 = y at *
              have Hsx := Lib.hid hsx
              clear hsx hly hy
              go_upto_region 15 with (fail)
              refine wp_region_tail 5 (fun W => OfAt w W x) (by kernel_rfl) (by kernel_rfl) (HM.out.grow (Grow.refl _).drew) ?_
              simp only [List.take_succ_cons, List.take_zero]
              refine quiet_load_row rfl 91 (.tmp 3) rfl ((w.heap.size + 1)) rfl _ ((us x)) (0, 0) _ (fun W hW => hW.box) Tryd.underlying91 rfl (by rw [Hsx.out]; kernel_rfl) ?_
              simp only [Act.put, List.setIfInBounds_toArray, List.set_cons_zero, List.set_cons_succ]
              (refine quiet_ex rfl ?_; apply Exists.intro; refine ⟨fun W hW => ?_, ?_⟩)
              · go_simp; try with_reducible rfl
              simp only [Act.put, List.setIfInBounds_toArray, List.set_cons_zero, List.set_cons_succ]
              (refine quiet_ex rfl ?_; apply Exists.intro; refine ⟨fun W hW => ?_, ?_⟩)
              · go_simp; try with_reducible rfl
              simp only [Act.put, List.setIfInBounds_toArray, List.set_cons_zero, List.set_cons_succ]
              (refine quiet_at rfl ⟨.agg (us b.1), fun W hW => ?_, ?_⟩)
              · go_simp; exact (r4.out _).mono (fun e w' h => ⟨h.1, hW.grow h.2⟩)
              simp only [Act.put, List.setIfInBounds_toArray, List.set_cons_zero, List.set_cons_succ]
              (refine quiet_at rfl ⟨.agg (us y), fun W hW => ?_, ?_⟩)
              · go_simp; exact (rt.out _ hW.pla).mono (fun e w' h => ⟨h.1, hW.grow h.2⟩)
              simp only [Act.put, List.setIfInBounds_toArray, List.set_cons_zero, List.set_cons_succ]
              refine wpQuiet_nil ?_
              intro w4 h4
              have hB := h4.box
              have H4 := Lib.hid h4
              clear h4
              simp only [List.drop_succ_cons, List.drop_zero]
              go_wp2_with (refine wpList_store_row rfl 91 (.tmp 3) (.tmp 61) rfl (w.heap.size + 1) (us y) rfl rfl _ _ hB (by rw [hsy]; kernel_rfl) (by rw [hsy, Hsx.out]) hony ?_)
              go_roundw
              case rel => exact ⟨j + 1, by omega, by go_num, by rw [Hs.out]; exact H4.out.store⟩
              case measure => simp [intOf]; omega
            · have e : j = m := by omega
              subst e
              have hj1 : decide (16 * (j : Int) < (N : Int)) = false := by have := HNm.out; simp; omega
              have hB := HM.out.box
              have HL := HLn.out (k + j)
              have hsx : (us (absE (padE l) (k + j))).size = 8 := by simp [us, absE_length]
              have Hfin := Lib.hid (show front (absE (padE l) (k + j)) = (ofE l).1 from Hend.out.symm)
              generalize absE (padE l) (k + j) = x at *
              have rf := Lib.hid (fun W => front_any x HL W)
              rw [Hfin.out] at rf
              have sy := (ofE l).sz
              have oy := (ofE l).one
              generalize hz : ofE l = z at *
              have Hz := Lib.hid hz
              clear hz HL
              go_wp2_with (refine wpList_load_row_g rfl 91 (.tmp 3) rfl (w.heap.size + 1) rfl _ (us x) (0, 0) _ hB Tryd.underlying91 rfl (by rw [hsx]; kernel_rfl) ?_)
              refine (rf.out _).mono ?_
              rintro e w8 ⟨rfl, hg8⟩
              have HE := Lib.hid (HM.out.grow hg8)
              have hR := HM.out.res.grow hg8
              clear hg8 hB
              go_wp2_with (refine wpList_store_row rfl 27 (.tmp 2) (.tmp 63) rfl (w.heap.size) (us z.1) rfl rfl _ _ hR (by rw [sy]; kernel_rfl) (by rw [sy]; exact D.zero.sz) oy ?_)
              refine bodyPost_ret (results_cell_row (p := 2) (ty := 27) rfl _ _ (w.heap.size) _ (us z.1) (0, 0) _ rfl (setRow_heap _ _ _ _ _ _ hR) Tryd.underlying27 rfl (by rw [sy]; kernel_rfl)) rfl ⟨by rw [Hz.out], ?_⟩
              exact HE.out.gro.setRow (Nat.le_refl _) _
end Go.Proofs.YtamllmoakgnjoaaDoor
