/- seedcornref02.Text: the signs of any bytes. -/
import Derived.Test.YtjokaennipmmaaaDoorHex
namespace Go.Proofs.YtjokaennipmmaaaDoor
open Go.RowKit
structure HexAt (w0 wr : World) (v : Value) (l : List UInt8) (j : Nat) : Prop where
  own : wr.ownsRow w0.heap.size 5 1 v (2 * j) (bys (hexE (l.take j)))
  gro : Grow w0 wr
theorem HexAt.grow {w0 w w' : World} {v : Value} {l : List UInt8} {j : Nat} (h : HexAt w0 w v l j) (hg : Grow w w') : HexAt w0 w' v l j :=
  ⟨ownsRow_grow h.own hg, h.gro.tr hg⟩
set_option maxRecDepth 100000 in
set_option maxHeartbeats 1000000 in
theorem hex_c (l : List UInt8) (hl : l.length ≤ 1099511627776) (w : World) : Calls Tryd.prog 64 #[.string ⟨l.toArray⟩] w fun e w' => e = .returned (.string ⟨(hexE l).toArray⟩) ∧ Grow w w' := by
  go_enter Tryd.func64, Tryd.ntmps64
  have H0 := Lib.hid (HexAt.mk (World.ownsRow_nil w w.heap.size 5 1) (Grow.refl w) : HexAt w w (.slice none 0 0) l 0)
  have hsz : (ByteArray.mk l.toArray).size = l.length := by simp [ByteArray.size]
  have hix := fun j hj W => index_str l j hj W
  have Hix := Lib.hid hix
  clear hix
  go_wp2_with fail
  go_loopw [3, 4] (fun v i wr => ∃ j : Nat, j ≤ l.length ∧ i = .int .i64 j ∧ HexAt w wr v l j) (fun _ i _ => l.length - (intOf i).toNat)
  case atStart => exact ⟨0, by omega, rfl, H0.out⟩
  case round =>
    obtain ⟨j, hj, rfl, hN⟩ := hrel
    have HN := Lib.hid hN
    clear hN H0
    by_cases hlt : j < l.length
    · have hj1 : decide ((j : Int) < (l.length : Int)) = true := by simp; omega
      have hx := Hix.out j hlt
      have hb := (l.getD j 0).toNat_lt
      have Hsucc := Lib.hid (hexE_succ l j hlt)
      generalize l.getD j 0 = b at *
      obtain ⟨q, hq⟩ : ∃ q, q = b.toNat / 16 := ⟨_, rfl⟩
      obtain ⟨r, hr⟩ : ∃ r, r = b.toNat % 16 := ⟨_, rfl⟩
      rw [← hq, ← hr] at Hsucc
      have r1 := Lib.hid (fun W => rsign_c q (by omega) W)
      have r2 := Lib.hid (fun W => rsign_c r (by omega) W)
      generalize sgn q = s1 at *
      generalize sgn r = s2 at *
      have e1 : IntKind.i64.wrap (b.toNat : Int) = (b.toNat : Int) := by rw [IntKind.wrap_i64]; omega
      have e2 : IntKind.i64.wrap ((b.toNat : Int) / 16) = (q : Int) := by rw [IntKind.wrap_i64]; omega
      have e4 : (b.toNat : Int).tmod 16 = (r : Int) := by rw [Int.tmod_eq_emod_of_nonneg (by omega)]; omega
      clear hq hr hb
      go_upto_region 5 with (fail)
      refine wp_region_anyR 15 (fun W => Grow w W) (fun W => HexAt w W _ l j) (by kernel_rfl) (by kernel_rfl) (HN.out.gro.drew) (HN.out.grow (Grow.refl _).drew) ?_
      have hS : Stab (fun W => HexAt w W u3 l j) := fun _ _ h g => h.grow g
      (refine anyC_val (i := 0) (some 11) rfl rfl (by kernel_rfl) (fun _ _ _ _ h => h) (by assumption) rfl ?_; apply Exists.intro; refine ⟨fun W hW => ?_, ?_⟩)
      · go_simp; try with_reducible rfl
      simp only [Act.put, List.setIfInBounds_toArray, List.set_cons_zero, List.set_cons_succ]
      (refine anyC_val (i := 1) (some 12) rfl rfl (by kernel_rfl) (fun _ _ _ _ h => h) (by assumption) rfl ?_; apply Exists.intro; refine ⟨fun W hW => ?_, ?_⟩)
      · go_simp; try with_reducible rfl
      simp only [Act.put, List.setIfInBounds_toArray, List.set_cons_zero, List.set_cons_succ]
      (refine anyC_val (i := 2) (some 13) rfl rfl (by kernel_rfl) (fun _ _ _ _ h => h) (by assumption) rfl ?_; apply Exists.intro; refine ⟨fun W hW => ?_, ?_⟩)
      · go_simp; try with_reducible rfl
      simp only [Act.put, List.setIfInBounds_toArray, List.set_cons_zero, List.set_cons_succ]
      (refine anyC_val (i := 3) (some 14) rfl rfl (by kernel_rfl) (fun _ _ _ _ h => h) (by assumption) rfl ?_; apply Exists.intro; refine ⟨fun W hW => ?_, ?_⟩)
      · have c := hx W; go_simp; try with_reducible rfl
      simp only [Act.put, List.setIfInBounds_toArray, List.set_cons_zero, List.set_cons_succ]
      (refine anyC_val (i := 4) (some 15) rfl rfl (by kernel_rfl) (fun _ _ _ _ h => h) (by assumption) rfl ?_; apply Exists.intro; refine ⟨fun W hW => ?_, ?_⟩)
      · go_simp; try with_reducible rfl
      simp only [Act.put, List.setIfInBounds_toArray, List.set_cons_zero, List.set_cons_succ]
      (refine anyC_val (i := 5) (some 16) rfl rfl (by kernel_rfl) (fun _ _ _ _ h => h) (by assumption) rfl ?_; apply Exists.intro; refine ⟨fun W hW => ?_, ?_⟩)
      · go_simp; try with_reducible rfl
      simp only [Act.put, List.setIfInBounds_toArray, List.set_cons_zero, List.set_cons_succ]
      (refine anyC_call (i := 6) (some 17) (.int .u8 (s1.toNat : Int)) rfl rfl (by kernel_rfl) (fun _ _ _ h => h) (by assumption) rfl (fun W hW => ?_) ?_)
      · go_simp; exact (r1.out _).mono (fun e w' h => ⟨h.1, hW.tr h.2, h.2⟩)
      simp only [Act.put, List.setIfInBounds_toArray, List.set_cons_zero, List.set_cons_succ]
      (refine anyC_val (i := 7) (some 18) rfl rfl (by kernel_rfl) (fun _ _ _ _ h => h) (by assumption) rfl ?_; apply Exists.intro; refine ⟨fun W hW => ?_, ?_⟩)
      · go_simp; try with_reducible rfl
      simp only [Act.put, List.setIfInBounds_toArray, List.set_cons_zero, List.set_cons_succ]
      (refine anyC_val (i := 8) (some 19) rfl rfl (by kernel_rfl) (fun _ _ _ _ h => h) (by assumption) rfl ?_; apply Exists.intro; refine ⟨fun W hW => ?_, ?_⟩)
      · go_simp; try with_reducible rfl
      simp only [Act.put, List.setIfInBounds_toArray, List.set_cons_zero, List.set_cons_succ]
      (refine anyC_val (i := 9) (some 20) rfl rfl (by kernel_rfl) (fun _ _ _ _ h => h) (by assumption) rfl ?_; apply Exists.intro; refine ⟨fun W hW => ?_, ?_⟩)
      · have c := hx W; go_simp; try with_reducible rfl
      simp only [Act.put, List.setIfInBounds_toArray, List.set_cons_zero, List.set_cons_succ]
      (refine anyC_val (i := 10) (some 21) rfl rfl (by kernel_rfl) (fun _ _ _ _ h => h) (by assumption) rfl ?_; apply Exists.intro; refine ⟨fun W hW => ?_, ?_⟩)
      · go_simp; try with_reducible rfl
      simp only [Act.put, List.setIfInBounds_toArray, List.set_cons_zero, List.set_cons_succ]
      (refine anyC_val (i := 11) (some 22) rfl rfl (by kernel_rfl) (fun _ _ _ _ h => h) (by assumption) rfl ?_; apply Exists.intro; refine ⟨fun W hW => ?_, ?_⟩)
      · go_simp; try with_reducible rfl
      simp only [Act.put, List.setIfInBounds_toArray, List.set_cons_zero, List.set_cons_succ]
      (refine anyC_call (i := 12) (some 23) (.int .u8 (s2.toNat : Int)) rfl rfl (by kernel_rfl) (fun _ _ _ h => h) (by assumption) rfl (fun W hW => ?_) ?_)
      · go_simp; exact (r2.out _).mono (fun e w' h => ⟨h.1, hW.tr h.2, h.2⟩)
      simp only [Act.put, List.setIfInBounds_toArray, List.set_cons_zero, List.set_cons_succ]
      refine anyC_one (i := 13) (by kernel_rfl) (fun W hW hR => ?_)
      refine wpOp_of_list rfl (fun Q' hK => ?_)
      go_wp2_with fail
      have ha : Grow W _ := Below.alloc (Grow.refl W) (Nat.le_refl _) (Obj.cells #[Value.int IntKind.u8 s1.toNat, Value.int IntKind.u8 s2.toNat] 5)
      obtain ⟨b0, hb0⟩ : ∃ b, b = W.heap.size := ⟨_, rfl⟩
      have hbk : Blk (W.alloc (Obj.cells #[Value.int IntKind.u8 s1.toNat, Value.int IntKind.u8 s2.toNat] 5)) b0 5 #[Value.int IntKind.u8 s1.toNat, Value.int IntKind.u8 s2.toNat] := hb0 ▸ Blk.new _ _ _
      refine ⟨hW.tr ha, (fun x => HexAt w x u3 l j ∧ Blk x b0 5 #[Value.int IntKind.u8 s1.toNat, Value.int IntKind.u8 s2.toNat]), (fun _ _ h g => ⟨h.1.grow g, h.2.grow g⟩), ⟨hR.grow ha, hbk⟩, ?_⟩
      rw [← hb0]
      clear hb0 hW hR ha hbk
      refine anyC_one (i := 14) (by kernel_rfl) (fun W2 hW2 hR2 => ?_)
      refine wpOp_of_list rfl (fun Q' hK => ?_)
      refine wpList_append_blk rfl (.tmp 11) (.tmp 24) 94 rfl w.heap.size 5 (.int .u8 0) 1 1 Tryd.underlying94 info_u8 rfl (by omega) _ (2 * j) _ rfl hR2.1.own b0 2 2 [Value.int IntKind.u8 s1.toNat, Value.int IntKind.u8 s2.toNat] rfl hR2.2 rfl (by simp [Value.oneCell']) (by simp only [maxLen]; omega) (by omega) hW2.size ?_
      intro v' w3 hown' hbel' _
      have hn : w3.ownsRow w.heap.size 5 1 v' (2 * (j + 1)) (bys (hexE (l.take (j + 1)))) := by
        rw [Hsucc.out, bys_append, show 2 * (j + 1) = 2 * j + 2 by omega]
        exact hown'
      refine hK _ _ ⟨Below.trans hW2 hbel', (fun x => x.ownsRow w.heap.size 5 1 v' (2 * (j + 1)) (bys (hexE (l.take (j + 1))))), (fun _ _ h g => ownsRow_grow h g), hn, ?_⟩
      clear hn hbel' hown' hR2 hW2 hK
      simp only [Act.put, List.setIfInBounds_toArray]
      refine anyC_tail_lit (by kernel_rfl) (fun w4 h4 hR => ?_)
      simp only [List.drop_succ_cons, List.drop_zero]
      go_wp2_with fail
      go_roundw
      case rel => exact ⟨j + 1, by omega, by go_num, ⟨hR, h4⟩⟩
      case measure => simp [intOf]; omega
    · have e : j = l.length := by omega
      subst e
      have hcv := run_string_of wr 94 9 5 Tryd.underlying94 Tryd.underlying5 Tryd.underlying9 (Sl.of_own HN.out.own)
      rw [List.take_length] at hcv
      go_wp2_with fail
      go_ret
      exact ⟨rfl, HN.out.gro⟩
end Go.Proofs.YtjokaennipmmaaaDoor
