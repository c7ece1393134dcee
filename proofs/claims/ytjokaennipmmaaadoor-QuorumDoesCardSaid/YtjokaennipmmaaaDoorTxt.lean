/- seedcornref03.Text: a digest's text. -/
import Derived.Test.YtjokaennipmmaaaDoorHex2
namespace Go.Proofs.YtjokaennipmmaaaDoor
open Go.RowKit
structure TxtAt (w0 wr : World) (d : D) : Prop where
  blk : Blk wr w0.heap.size 30 (us d.1)
  gro : Grow w0 wr
theorem TxtAt.grow {w0 w w' : World} {d : D} (h : TxtAt w0 w d) (hg : Grow w w') : TxtAt w0 w' d := ⟨h.blk.grow hg, h.gro.tr hg⟩
set_option maxRecDepth 100000 in
set_option maxHeartbeats 1000000 in
theorem txt_c (d : D) (w : World) : Calls Tryd.prog 60 #[.agg (us d.1)] w fun e w' => e = .returned (.string ⟨(txtE d).toArray⟩) ∧ Grow w w' := by
  go_enter Tryd.func60, Tryd.ntmps60
  go_upto_region 1 with (fail)
  refine wp_gen (fun W => TxtAt w W d) ⟨Blk.new _ _ _, Below.alloc (Grow.refl w) (Nat.le_refl _) _⟩ ?_
  intro w1 h1
  have H1 := Lib.hid h1
  clear h1
  go_wp2_with fail
  go_loopw [3, 4] (fun v i wr => ∃ j : Nat, j ≤ 4 ∧ i = .int .i64 j ∧ v = .string ⟨(rawTo d j).toArray⟩ ∧ TxtAt w wr d) (fun _ i _ => 4 - (intOf i).toNat)
  case atStart => exact ⟨0, by omega, rfl, rfl, H1.out⟩
  case round =>
    obtain ⟨j, hj, rfl, rfl, hN⟩ := hrel
    have HN := Lib.hid hN
    clear hN H1
    by_cases hlt : j < 4
    · have hj1 : decide ((j : Int) < 4) = true := by simp; omega
      have b1 : (0 : Int) ≤ j := by omega
      have b2 : (j : Int) < 4 := by omega
      have hcell := Lib.hid (fun W (hW : TxtAt w W d) => (hW.blk.cell j).trans (us_get d.1 j (by rw [d.2]; omega)))
      have Hsucc := Lib.hid (show rawTo d (j + 1) = rawTo d j ++ bytes4 (d.1.getD j 0) from rfl)
      have hrl := rawTo_length d j
      generalize rawTo d j = l at *
      generalize d.1.getD j 0 = c at *
      have t1 : IntKind.u8.wrap ((c.toNat : Int) / 16777216) = ((UInt8.ofNat (c.toNat / 16777216)).toNat : Int) := by rw [← u8_of]; rfl
      have t2 : IntKind.u8.wrap ((c.toNat : Int) / 65536) = ((UInt8.ofNat (c.toNat / 65536)).toNat : Int) := by rw [← u8_of]; rfl
      have t3 : IntKind.u8.wrap ((c.toNat : Int) / 256) = ((UInt8.ofNat (c.toNat / 256)).toNat : Int) := by rw [← u8_of]; rfl
      have t4 : IntKind.u8.wrap (c.toNat : Int) = ((UInt8.ofNat c.toNat).toNat : Int) := by rw [← u8_of]
      unfold bytes4 at Hsucc
      generalize UInt8.ofNat (c.toNat / 16777216) = x1 at *
      generalize UInt8.ofNat (c.toNat / 65536) = x2 at *
      generalize UInt8.ofNat (c.toNat / 256) = x3 at *
      generalize UInt8.ofNat c.toNat = x4 at *
      have had := Lib.hid (fun W => run_string_add_lists (P := Tryd.prog) (w := W) l [x1, x2, x3, x4] (by omega) (by simp))
      go_upto_region 5 with (fail)
      refine wp_region_anyC 23 (fun W => TxtAt w W d) (by kernel_rfl) (by kernel_rfl) (HN.out.grow (Grow.refl _).drew) ?_
      have hS := Stab.true_
      (refine anyC_val (i := 0) (some 9) rfl rfl (by kernel_rfl) (fun _ _ _ _ h => h) (by assumption) rfl ?_; apply Exists.intro; refine ⟨fun W hW => ?_, ?_⟩)
      · go_simp; try with_reducible rfl
      simp only [Act.put, List.setIfInBounds_toArray, List.set_cons_zero, List.set_cons_succ]
      (refine anyC_val (i := 1) (some 10) rfl rfl (by kernel_rfl) (fun _ _ _ _ h => h) (by assumption) rfl ?_; apply Exists.intro; refine ⟨fun W hW => ?_, ?_⟩)
      · go_simp; try with_reducible rfl
      simp only [Act.put, List.setIfInBounds_toArray, List.set_cons_zero, List.set_cons_succ]
      (refine anyC_val (i := 2) (some 11) rfl rfl (by kernel_rfl) (fun _ _ _ _ h => h) (by assumption) rfl ?_; apply Exists.intro; refine ⟨fun W hW => ?_, ?_⟩)
      · go_simp; try with_reducible rfl
      simp only [Act.put, List.setIfInBounds_toArray, List.set_cons_zero, List.set_cons_succ]
      (refine anyC_val (i := 3) (some 12) rfl rfl (by kernel_rfl) (fun _ _ _ _ h => h) (by assumption) rfl ?_; apply Exists.intro; refine ⟨fun W hW => ?_, ?_⟩)
      · have c := hcell.out W hW; go_simp; try with_reducible rfl
      simp only [Act.put, List.setIfInBounds_toArray, List.set_cons_zero, List.set_cons_succ]
      (refine anyC_val (i := 4) (some 13) rfl rfl (by kernel_rfl) (fun _ _ _ _ h => h) (by assumption) rfl ?_; apply Exists.intro; refine ⟨fun W hW => ?_, ?_⟩)
      · go_simp; try with_reducible rfl
      simp only [Act.put, List.setIfInBounds_toArray, List.set_cons_zero, List.set_cons_succ]
      (refine anyC_val (i := 5) (some 14) rfl rfl (by kernel_rfl) (fun _ _ _ _ h => h) (by assumption) rfl ?_; apply Exists.intro; refine ⟨fun W hW => ?_, ?_⟩)
      · go_simp; try with_reducible rfl
      simp only [Act.put, List.setIfInBounds_toArray, List.set_cons_zero, List.set_cons_succ]
      (refine anyC_val (i := 6) (some 15) rfl rfl (by kernel_rfl) (fun _ _ _ _ h => h) (by assumption) rfl ?_; apply Exists.intro; refine ⟨fun W hW => ?_, ?_⟩)
      · go_simp; try with_reducible rfl
      simp only [Act.put, List.setIfInBounds_toArray, List.set_cons_zero, List.set_cons_succ]
      (refine anyC_val (i := 7) (some 16) rfl rfl (by kernel_rfl) (fun _ _ _ _ h => h) (by assumption) rfl ?_; apply Exists.intro; refine ⟨fun W hW => ?_, ?_⟩)
      · go_simp; try with_reducible rfl
      simp only [Act.put, List.setIfInBounds_toArray, List.set_cons_zero, List.set_cons_succ]
      (refine anyC_val (i := 8) (some 17) rfl rfl (by kernel_rfl) (fun _ _ _ _ h => h) (by assumption) rfl ?_; apply Exists.intro; refine ⟨fun W hW => ?_, ?_⟩)
      · have c := hcell.out W hW; go_simp; try with_reducible rfl
      simp only [Act.put, List.setIfInBounds_toArray, List.set_cons_zero, List.set_cons_succ]
      (refine anyC_val (i := 9) (some 18) rfl rfl (by kernel_rfl) (fun _ _ _ _ h => h) (by assumption) rfl ?_; apply Exists.intro; refine ⟨fun W hW => ?_, ?_⟩)
      · go_simp; try with_reducible rfl
      simp only [Act.put, List.setIfInBounds_toArray, List.set_cons_zero, List.set_cons_succ]
      (refine anyC_val (i := 10) (some 19) rfl rfl (by kernel_rfl) (fun _ _ _ _ h => h) (by assumption) rfl ?_; apply Exists.intro; refine ⟨fun W hW => ?_, ?_⟩)
      · go_simp; try with_reducible rfl
      simp only [Act.put, List.setIfInBounds_toArray, List.set_cons_zero, List.set_cons_succ]
      (refine anyC_val (i := 11) (some 20) rfl rfl (by kernel_rfl) (fun _ _ _ _ h => h) (by assumption) rfl ?_; apply Exists.intro; refine ⟨fun W hW => ?_, ?_⟩)
      · go_simp; try with_reducible rfl
      simp only [Act.put, List.setIfInBounds_toArray, List.set_cons_zero, List.set_cons_succ]
      (refine anyC_val (i := 12) (some 21) rfl rfl (by kernel_rfl) (fun _ _ _ _ h => h) (by assumption) rfl ?_; apply Exists.intro; refine ⟨fun W hW => ?_, ?_⟩)
      · go_simp; try with_reducible rfl
      simp only [Act.put, List.setIfInBounds_toArray, List.set_cons_zero, List.set_cons_succ]
      (refine anyC_val (i := 13) (some 22) rfl rfl (by kernel_rfl) (fun _ _ _ _ h => h) (by assumption) rfl ?_; apply Exists.intro; refine ⟨fun W hW => ?_, ?_⟩)
      · have c := hcell.out W hW; go_simp; try with_reducible rfl
      simp only [Act.put, List.setIfInBounds_toArray, List.set_cons_zero, List.set_cons_succ]
      (refine anyC_val (i := 14) (some 23) rfl rfl (by kernel_rfl) (fun _ _ _ _ h => h) (by assumption) rfl ?_; apply Exists.intro; refine ⟨fun W hW => ?_, ?_⟩)
      · go_simp; try with_reducible rfl
      simp only [Act.put, List.setIfInBounds_toArray, List.set_cons_zero, List.set_cons_succ]
      (refine anyC_val (i := 15) (some 24) rfl rfl (by kernel_rfl) (fun _ _ _ _ h => h) (by assumption) rfl ?_; apply Exists.intro; refine ⟨fun W hW => ?_, ?_⟩)
      · go_simp; try with_reducible rfl
      simp only [Act.put, List.setIfInBounds_toArray, List.set_cons_zero, List.set_cons_succ]
      (refine anyC_val (i := 16) (some 25) rfl rfl (by kernel_rfl) (fun _ _ _ _ h => h) (by assumption) rfl ?_; apply Exists.intro; refine ⟨fun W hW => ?_, ?_⟩)
      · go_simp; try with_reducible rfl
      simp only [Act.put, List.setIfInBounds_toArray, List.set_cons_zero, List.set_cons_succ]
      (refine anyC_val (i := 17) (some 26) rfl rfl (by kernel_rfl) (fun _ _ _ _ h => h) (by assumption) rfl ?_; apply Exists.intro; refine ⟨fun W hW => ?_, ?_⟩)
      · go_simp; try with_reducible rfl
      simp only [Act.put, List.setIfInBounds_toArray, List.set_cons_zero, List.set_cons_succ]
      (refine anyC_val (i := 18) (some 27) rfl rfl (by kernel_rfl) (fun _ _ _ _ h => h) (by assumption) rfl ?_; apply Exists.intro; refine ⟨fun W hW => ?_, ?_⟩)
      · have c := hcell.out W hW; go_simp; try with_reducible rfl
      simp only [Act.put, List.setIfInBounds_toArray, List.set_cons_zero, List.set_cons_succ]
      (refine anyC_val (i := 19) (some 28) rfl rfl (by kernel_rfl) (fun _ _ _ _ h => h) (by assumption) rfl ?_; apply Exists.intro; refine ⟨fun W hW => ?_, ?_⟩)
      · go_simp; try with_reducible rfl
      simp only [Act.put, List.setIfInBounds_toArray, List.set_cons_zero, List.set_cons_succ]
      refine anyC_one (i := 20) (by kernel_rfl) (fun W hW _ => ?_)
      refine wpOp_of_list rfl (fun Q' hK => ?_)
      go_wp2_with fail
      have ha : Grow W _ := Below.alloc (Grow.refl W) (Nat.le_refl _) (Obj.cells #[Value.int IntKind.u8 x1.toNat, Value.int IntKind.u8 x2.toNat, Value.int IntKind.u8 x3.toNat, Value.int IntKind.u8 x4.toNat] 5)
      obtain ⟨b0, hb0⟩ : ∃ b, b = W.heap.size := ⟨_, rfl⟩
      have hbk : Blk (W.alloc (Obj.cells #[Value.int IntKind.u8 x1.toNat, Value.int IntKind.u8 x2.toNat, Value.int IntKind.u8 x3.toNat, Value.int IntKind.u8 x4.toNat] 5)) b0 5 (bys [x1, x2, x3, x4]).toArray := hb0 ▸ Blk.new _ _ _
      refine ⟨hW.grow ha, (fun x => Blk x b0 5 (bys [x1, x2, x3, x4]).toArray), (fun _ _ h g => h.grow g), hbk, ?_⟩
      rw [← hb0]
      clear hb0 hW ha hbk
      refine anyC_one (i := 21) (by kernel_rfl) (fun W2 hW2 hR2 => ?_)
      refine wpOp_of_list rfl (fun Q' hK => ?_)
      have hcv := run_string_of W2 94 9 5 Tryd.underlying94 Tryd.underlying5 Tryd.underlying9 (Sl.of_blk (n := 4) (c := 4) hR2 rfl (by omega) (by simp [maxLen]))
      go_wp2_with fail
      refine ⟨hW2, (fun _ => True), Stab.true_, trivial, ?_⟩
      clear hW2 hR2 hcv
      have hS := Stab.true_
      (refine anyC_val (i := 22) (some 31) rfl rfl (by kernel_rfl) (fun _ _ _ _ h => h) (by assumption) rfl ?_; apply Exists.intro; refine ⟨fun W hW => ?_, ?_⟩)
      · have c := had.out W; go_simp; try with_reducible rfl
      simp only [Act.put, List.setIfInBounds_toArray, List.set_cons_zero, List.set_cons_succ]
      refine anyC_tail_lit (by kernel_rfl) (fun w4 h4 hR => ?_)
      simp only [List.drop_succ_cons, List.drop_zero]
      go_wp2_with fail
      go_roundw
      case rel => exact ⟨j + 1, by omega, by go_num, by rw [Hsucc.out], h4⟩
      case measure => simp [intOf]; omega
    · have e : j = 4 := by omega
      subst e
      go_upto_region 6 with (fail)
      go_wp2_with fail
      refine (hex_c (rawTo d 4) (by rw [rawTo_length]; omega) _).mono ?_
      rintro e w2 ⟨rfl, hg2⟩
      go_wp2_with fail
      go_ret
      exact ⟨by rw [hex_raw]; rfl, HN.out.gro.tr hg2⟩
end Go.Proofs.YtjokaennipmmaaaDoor
