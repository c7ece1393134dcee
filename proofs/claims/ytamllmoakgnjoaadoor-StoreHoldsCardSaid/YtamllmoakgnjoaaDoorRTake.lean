/- The reference take: what it returns is what the plain functions give; the heap only grows. -/
import Derived.Test.YtamllmoakgnjoaaDoorRMix
import Derived.Test.YtamllmoakgnjoaaDoorAny
namespace Go.Proofs.YtamllmoakgnjoaaDoor
open Go.RowKit
structure RTakeAt (w wr : World) (t b : List UInt32) : Prop where
  blk : Blk wr w.heap.size 91 (us t)
  len : t.length = 8
  blo : Blk wr (w.heap.size + 1) 27 (us b)
  res : Blk wr (w.heap.size + 1 + 1) 91 (us [0, 0, 0, 0, 0, 0, 0, 0])
  bel : Below w.heap.size w wr
theorem RTakeAt.drew {w wr : World} {t b : List UInt32} (h : RTakeAt w wr t b) : RTakeAt w wr.drew t b := ⟨h.blk, h.len, h.blo, h.res, h.bel.drew⟩
theorem RTakeAt.set_ {w wr : World} {t b : List UInt32} (h : RTakeAt w wr t b) (i : Nat) (x : UInt32) : RTakeAt w (wr.setCell ⟨w.heap.size, i, none⟩ (.int .u32 (x.toNat : Int))) (t.set i x) b :=
  ⟨us_set t i x ▸ h.blk.set_ i _, by simp [h.len], h.blo.far (by simp) _, h.res.far (by simp; omega) _, h.bel.setCell (Nat.le_refl _) _⟩
set_option maxRecDepth 100000 in
set_option maxHeartbeats 1000000 in
theorem rtake_any (s b : List UInt32) (hs : s.length = 8) (hb : b.length = 4) (w : World) :
    Calls Tryd.prog 76 #[.agg (us s), .agg (us b)] w fun e w' => e = .returned (.agg (us (takeIn s b))) ∧ Grow w w' := by
  have Hs := Lib.hid hs
  have Hb := Lib.hid hb
  clear hs hb
  go_enter Tryd.func76, Tryd.ntmps76
  go_upto_region 1 with (fail)
  refine wp_gen (fun W => RTakeAt w W s b) ?_ ?_
  · exact ⟨((Blk.new _ _ _).alloc _).alloc _, Hs.out, (Blk.new1 _ _ _ _).alloc _, Blk.new2 _ _ _ _ _, (((Below.refl _ _).alloc (Nat.le_refl _) _).alloc (by simp) _).alloc (by simp; omega) _⟩
  intro w1 hT
  have HT := Lib.hid hT
  clear hT
  go_wp2_with fail
  go_loopw [5] (fun i wr => ∃ j : Nat, j ≤ 4 ∧ i = .int .i64 j ∧ RTakeAt w wr (xorIn s b j) b) (fun i _ => 4 - (intOf i).toNat)
  case atStart => exact ⟨0, by omega, rfl, HT.out⟩
  case round =>
    obtain ⟨j, hj, rfl, hN⟩ := hrel
    by_cases hjl : j < 4
    · have d2 : wr.cell? ⟨w.heap.size, j, none⟩ = some (.int .u32 (((xorIn s b j).getD j 0).toNat : Int)) := (hN.blk.cell j).trans (us_get _ j (by rw [hN.len]; omega))
      have d1 : wr.cell? ⟨w.heap.size + 1, j, none⟩ = some (.int .u32 ((b.getD j 0).toNat : Int)) := (hN.blo.cell j).trans (us_get _ j (by rw [Hb.out]; omega))
      have d3 := hN.blk.frozen j
      have HN := Lib.hid hN
      clear hN
      have e1 := u32_xor ((xorIn s b j).getD j 0) (b.getD j 0)
      generalize ha : (xorIn s b j).getD j 0 = a at *
      generalize hc : b.getD j 0 = c at *
      have Ha := Lib.hid ha
      have Hc := Lib.hid hc
      clear ha hc
      have b1 : (0 : Int) ≤ j := by omega
      have b2 : (j : Int) < 8 := by omega
      have b3 : (j : Int) < 4 := by omega
      go_wp2_with fail
      go_still_tail 9, (by kernel_rfl)
      go_wp2
      go_roundw
      case rel =>
        refine ⟨j + 1, by omega, by go_num, ?_⟩
        have h5 := HN.out.set_ j (a ^^^ c)
        have e5 : xorIn s b (j + 1) = (xorIn s b j).set j (a ^^^ c) := by rw [← Ha.out, ← Hc.out]; rfl
        rw [e5]
        exact h5.drew
      case measure => simp [intOf]; omega
    · have e4 : j = 4 := by omega
      subst e4
      have hB := hN.blk
      have hR := hN.res
      have hsz := us_size8 _ hN.len
      have HN := Lib.hid hN
      clear hN
      have hl1 := Lib.hid HN.out.len
      generalize hz : xorIn s b 4 = z at *
      have Hz := Lib.hid hz
      clear hz
      go_wp2_with (refine wpList_load_row rfl 91 (.tmp 2) rfl w.heap.size rfl 91 (us z) (0, 0) _ hB Tryd.underlying91 rfl (by rw [hsz]; kernel_rfl) ?_)
      refine (rmix_any z hl1.out _).mono ?_
      rintro e w2 ⟨rfl, hg⟩
      have hR2 := hR.grow hg
      have hlm : (mix z).length = 8 := (mixTo_length z 8).trans hl1.out
      have hsm := us_size8 _ hlm
      have hone := us_one (mix z)
      clear hlm hB hR hsz
      have Hg := Lib.hid hg
      clear hg
      generalize hy : mix z = y at *
      have Hy := Lib.hid hy
      clear hy
      go_wp2_with (refine wpList_store_row rfl 91 (.tmp 4) (.tmp 20) rfl (w.heap.size + 1 + 1) (us y) rfl rfl 91 _ hR2 (by rw [hsm]; kernel_rfl) (by rw [hsm]; rfl) hone ?_)
      refine bodyPost_ret (results_cell_row (p := 4) (ty := 91) rfl _ _ (w.heap.size + 1 + 1) 91 (us y) (0, 0) _ rfl (setRow_heap _ _ _ _ _ _ hR2) Tryd.underlying91 rfl (by rw [hsm]; kernel_rfl)) rfl ⟨?_, ?_⟩
      · rw [← Hy.out, ← Hz.out]; rfl
      · exact (below_tr HN.out.bel Hg.out HN.out.bel.size).setRow (by omega) _
end Go.Proofs.YtamllmoakgnjoaaDoor
