/- digest.Mix: on any eight words it returns what the plain function mix gives; the heap only grows. -/
import Derived.Test.YtamllmoakgnjoaaDoorRows
import Derived.Test.YtamllmoakgnjoaaDoorTurn
import Derived.Test.YtamllmoakgnjoaaDoorReg
namespace Go.Proofs.YtamllmoakgnjoaaDoor
open Go.RowKit
def Places (w : World) : Prop := 0 < w.heap.size ∧ ∀ j, j < 4 → w.cell? ⟨0, j, none⟩ = some (.int .i64 (placeN j : Int))
theorem Places.below {w w' : World} {B : Nat} (h : Places w) (hb : Below B w w') (hB : w.heap.size ≤ B) : Places w' :=
  ⟨Nat.lt_of_lt_of_le h.1 hb.size, fun j hj => (hb.cell (p := ⟨0, j, none⟩) (Nat.lt_of_lt_of_le h.1 hB)).trans (h.2 j hj)⟩
theorem Places.under {w w' : World} {B : Nat} (h : Places w) (hb : Below B w w') (hB : 0 < B) : Places w' :=
  ⟨Nat.lt_of_lt_of_le h.1 hb.size, fun j hj => (hb.cell (p := ⟨0, j, none⟩) hB).trans (h.2 j hj)⟩
theorem Places.grow {w w' : World} (h : Places w) (hb : Grow w w') : Places w' := h.below hb (Nat.le_refl _)
theorem placeN_cases (j : Nat) (hj : j < 4) : (placeN j : Int) = 7 ∨ (placeN j : Int) = 9 ∨ (placeN j : Int) = 13 ∨ (placeN j : Int) = 18 := by
  have h : j = 0 ∨ j = 1 ∨ j = 2 ∨ j = 3 := by omega
  rcases h with rfl | rfl | rfl | rfl <;> decide
/-- What the round's head knows. -/
structure MixAt (w wr : World) (t : List UInt32) : Prop where
  blk : Blk wr w.heap.size 91 (us t)
  len : t.length = 8
  res : Blk wr (w.heap.size + 1) 91 (us [0, 0, 0, 0, 0, 0, 0, 0])
  bel : Below w.heap.size w wr
theorem us_size8 (t : List UInt32) (h : t.length = 8) : (us t).size = 8 := by simp [us, h]
theorem us_one (t : List UInt32) : (us t).all (·.oneCell') = true := by simp [us, Value.oneCell']
theorem MixAt.drew {w wr : World} {t : List UInt32} (h : MixAt w wr t) : MixAt w wr.drew t := ⟨h.blk, h.len, h.res, h.bel.drew⟩
theorem MixAt.alloc {w wr : World} {t : List UInt32} (h : MixAt w wr t) (o : Obj) (hl : w.heap.size + 1 < wr.heap.size) : MixAt w (wr.alloc o) t := ⟨h.blk.alloc o, h.len, h.res.alloc o, h.bel.alloc (by omega) o⟩
theorem MixAt.set_ {w wr : World} {t : List UInt32} (h : MixAt w wr t) (i : Nat) (x : UInt32) : MixAt w (wr.setCell ⟨w.heap.size, i, none⟩ (.int .u32 (x.toNat : Int))) (t.set i x) :=
  ⟨us_set t i x ▸ h.blk.set_ i _, by simp [h.len], h.res.far (by simp) _, h.bel.setCell (Nat.le_refl _) _⟩
theorem MixAt.cell {w wr : World} {t : List UInt32} (h : MixAt w wr t) (i : Nat) (hi : i < 8) : wr.cell? ⟨w.heap.size, i, none⟩ = some (.int .u32 ((t.getD i 0).toNat : Int)) :=
  (h.blk.cell i).trans (us_get t i (by rw [h.len]; exact hi))
theorem MixAt.frozen {w wr : World} {t : List UInt32} (h : MixAt w wr t) (i : Nat) : wr.frozen? ⟨w.heap.size, i, none⟩ = false := h.blk.frozen i
set_option maxRecDepth 100000 in
set_option maxHeartbeats 1000000 in
theorem mix_any (s : List UInt32) (hs : s.length = 8) (w : World) (hP : Places w) :
    Calls Tryd.prog 93 #[.agg (us s)] w fun e w' => e = .returned (.agg (us (mix s))) ∧ Grow w w' := by
  have Hs := Lib.hid hs
  clear hs
  have HP := Lib.hid hP
  clear hP
  go_enter Tryd.func93, Tryd.ntmps93
  go_wp2_with fail
  go_loopw [3] (fun r wr => ∃ k : Nat, k ≤ 8 ∧ r = .int .u32 k ∧ MixAt w wr (mixTo s k)) (fun r _ => 8 - (intOf r).toNat)
  case atStart =>
    exact ⟨0, by omega, rfl, ⟨Blk.alloc (Blk.new _ _ _) _, Hs.out, Blk.new1 _ _ _ _, ((Below.refl _ _).alloc (Nat.le_refl _) _).alloc (by simp) _⟩⟩
  case round =>
    obtain ⟨k, hk, rfl, hM⟩ := hrel
    have HM := Lib.hid hM
    clear hM
    by_cases hlt : k < 8
    · have c0 := HM.out.cell 0 (by omega)
      have f0 := HM.out.frozen 0
      generalize ht : mixTo s k = t at *
      have Ht := Lib.hid ht
      clear ht
      generalize hx : t.getD 0 0 = x at *
      have Hx := Lib.hid hx
      clear hx
      have hm := u32_mul_step k hlt
      generalize hmm : (2654435769 * (UInt32.ofNat k + 1) : UInt32) = m at *
      have Hm := Lib.hid hmm
      clear hmm
      have hm' : 2654435769 * ((k : Int) + 1) % 4294967296 = (m.toNat : Int) := hm
      clear hm
      have hk8 : decide ((k : Int) < 8) = true := by simp; omega
      go_wp2_with fail
      clear hk8 hm'
      obtain ⟨wo, hwo⟩ : ∃ wo : World, wo = wr := ⟨_, rfl⟩
      subst hwo
      go_loopw [4] (fun i wr => ∃ j : Nat, j ≤ 4 ∧ i = .int .i64 j ∧ MixAt w wr (inner (t.set 0 (x + m)) j)) (fun i _ => 4 - (intOf i).toNat)
      case atStart =>
        refine ⟨0, by omega, rfl, ?_⟩
        have e : (((x.toNat : Int) + (m.toNat : Int)) % 4294967296) = ((x + m).toNat : Int) := u32_add x m
        rw [e]
        exact HM.out.set_ 0 _
      case round =>
        obtain ⟨j, hj, rfl, hN⟩ := hrel
        clear c0 f0 HM
        by_cases hjl : j < 4
        · have c1 := hN.cell j (by omega)
          have c2 := hN.cell (j + 4) (by omega)
          have f1 := hN.frozen j
          have f2 := hN.frozen (j + 4)
          have HN := Lib.hid hN
          have b1 : (0 : Int) ≤ j := by omega
          have b2 : (j : Int) < 8 := by omega
          have b3 : (0 : Int) ≤ (j : Int) + 4 := by omega
          have b4 : (j : Int) + 4 < 8 := by omega
          have b5 : IntKind.i64.wrap ((j : Int) + 4) = (j : Int) + 4 := IntWalk.i64_in _ (by omega)
          have b6 : ((j : Int) + 4).toNat = j + 4 := by omega
          clear hN
          generalize hz : inner (t.set 0 (x + m)) j = z at *
          have Hz := Lib.hid hz
          clear hz
          generalize ha : z.getD j 0 = a at *
          generalize hb : z.getD (j + 4) 0 = b at *
          have Ha := Lib.hid ha
          have Hb := Lib.hid hb
          clear ha hb
          go_wp2_with fail
          go_still_tail 9, (by kernel_rfl)
          go_wp2_with fail
          refine wp_gen (fun W => MixAt w W (z.set j (a + b))) ?_ ?_
          · have e : (((a.toNat : Int) + (b.toNat : Int)) % 4294967296) = ((a + b).toNat : Int) := u32_add a b
            rw [e]
            exact (HN.out.set_ j (a + b)).drew
          intro w3 h3
          clear c1 c2 f1 f2
          generalize hz1 : z.set j (a + b) = z1 at *
          have Hz1 := Lib.hid hz1
          clear hz1
          generalize hp : z1.getD (j + 4) 0 = p at *
          generalize hq : z1.getD j 0 = q at *
          have Hp := Lib.hid hp
          have Hq := Lib.hid hq
          clear hp hq
          have P3 : Places w3 := HP.out.below h3.bel (Nat.le_refl _)
          refine wp_region_tail 15 (fun W => MixAt w W z1 ∧ Places W) (by kernel_rfl) (by kernel_rfl) ⟨h3.drew, P3⟩ ?_
          simp only [List.take_succ_cons, List.take_zero, List.drop_succ_cons, List.drop_zero]
          (refine quiet_ex rfl ?_; apply Exists.intro; refine ⟨fun W hW => ?_, ?_⟩)
          · go_simp; try with_reducible rfl
          simp only [Act.put, List.setIfInBounds_toArray, List.set_cons_zero, List.set_cons_succ]
          (refine quiet_ex rfl ?_; apply Exists.intro; refine ⟨fun W hW => ?_, ?_⟩)
          · go_simp; try with_reducible rfl
          simp only [Act.put, List.setIfInBounds_toArray, List.set_cons_zero, List.set_cons_succ]
          (refine quiet_ex rfl ?_; apply Exists.intro; refine ⟨fun W hW => ?_, ?_⟩)
          · go_simp; try with_reducible rfl
          simp only [Act.put, List.setIfInBounds_toArray, List.set_cons_zero, List.set_cons_succ]
          (refine quiet_ex rfl ?_; apply Exists.intro; refine ⟨fun W hW => ?_, ?_⟩)
          · go_simp; try with_reducible rfl
          simp only [Act.put, List.setIfInBounds_toArray, List.set_cons_zero, List.set_cons_succ]
          (refine quiet_ex rfl ?_; apply Exists.intro; refine ⟨fun W hW => ?_, ?_⟩)
          · go_simp; try with_reducible rfl
          simp only [Act.put, List.setIfInBounds_toArray, List.set_cons_zero, List.set_cons_succ]
          (refine quiet_ex rfl ?_; apply Exists.intro; refine ⟨fun W hW => ?_, ?_⟩)
          · have c := hW.1.cell (j + 4) (by omega); rw [Hp.out] at c; go_simp; try with_reducible rfl
          simp only [Act.put, List.setIfInBounds_toArray, List.set_cons_zero, List.set_cons_succ]
          (refine quiet_ex rfl ?_; apply Exists.intro; refine ⟨fun W hW => ?_, ?_⟩)
          · go_simp; try with_reducible rfl
          simp only [Act.put, List.setIfInBounds_toArray, List.set_cons_zero, List.set_cons_succ]
          (refine quiet_ex rfl ?_; apply Exists.intro; refine ⟨fun W hW => ?_, ?_⟩)
          · go_simp; try with_reducible rfl
          simp only [Act.put, List.setIfInBounds_toArray, List.set_cons_zero, List.set_cons_succ]
          (refine quiet_ex rfl ?_; apply Exists.intro; refine ⟨fun W hW => ?_, ?_⟩)
          · have c := hW.1.cell j (by omega); rw [Hq.out] at c; go_simp; try with_reducible rfl
          simp only [Act.put, List.setIfInBounds_toArray, List.set_cons_zero, List.set_cons_succ]
          (refine quiet_ex rfl ?_; apply Exists.intro; refine ⟨fun W hW => ?_, ?_⟩)
          · have e := u32_xor p q; go_simp; try with_reducible rfl
          simp only [Act.put, List.setIfInBounds_toArray, List.set_cons_zero, List.set_cons_succ]
          (refine quiet_ex rfl ?_; apply Exists.intro; refine ⟨fun W hW => ?_, ?_⟩)
          · go_simp; try with_reducible rfl
          simp only [Act.put, List.setIfInBounds_toArray, List.set_cons_zero, List.set_cons_succ]
          (refine quiet_ex rfl ?_; apply Exists.intro; refine ⟨fun W hW => ?_, ?_⟩)
          · go_simp; try with_reducible rfl
          simp only [Act.put, List.setIfInBounds_toArray, List.set_cons_zero, List.set_cons_succ]
          (refine quiet_ex rfl ?_; apply Exists.intro; refine ⟨fun W hW => ?_, ?_⟩)
          · have c := hW.2.2 j hjl; go_simp; try with_reducible rfl
          simp only [Act.put, List.setIfInBounds_toArray, List.set_cons_zero, List.set_cons_succ]
          (refine quiet_at rfl ⟨.int .u32 ((rot (placeN j) (p ^^^ q)).toNat : Int), fun W hW => ?_, ?_⟩)
          · go_simp; exact (turn_any (p ^^^ q) _ _ (placeN_cases j hjl)).mono (fun e w' h => ⟨by simpa using h.1, by rw [← h.2]; exact hW⟩)
          simp only [Act.put, List.setIfInBounds_toArray, List.set_cons_zero, List.set_cons_succ]
          (refine quiet_ex rfl ?_; apply Exists.intro; refine ⟨fun W hW => ?_, ?_⟩)
          · go_simp; try with_reducible rfl
          simp only [Act.put, List.setIfInBounds_toArray, List.set_cons_zero, List.set_cons_succ]
          refine wpQuiet_nil ?_
          intro w4 h4
          have f1 := h4.1.frozen (j + 4)
          have c1 := h4.1.cell (j + 4) (by omega)
          clear h3 P3 
          have H4 := Lib.hid h4
          clear h4
          go_wp2
          go_roundw
          case rel =>
            refine ⟨j + 1, by omega, by go_num, ?_⟩
            have h5 := H4.out.1.set_ (j + 4) (rot (placeN j) (p ^^^ q))
            have e5 : inner (t.set 0 (x + m)) (j + 1) = z1.set (j + 4) (rot (placeN j) (p ^^^ q)) := by
              rw [← Hp.out, ← Hq.out, ← Hz1.out, ← Ha.out, ← Hb.out, ← Hz.out]; rfl
            rw [e5]
            exact h5
          case measure => simp [intOf]; omega
        · have e4 : j = 4 := by omega
          subst e4
          have hB := hN.blk
          have hsz := us_size8 _ hN.len
          have HN := Lib.hid hN
          clear hN
          generalize hz : inner (t.set 0 (x + m)) 4 = z at *
          have Hz := Lib.hid hz
          clear hz
          have hone := us_one z
          have hzs : #[Value.int .u32 0, .int .u32 0, .int .u32 0, .int .u32 0, .int .u32 0, .int .u32 0, .int .u32 0, .int .u32 0].size = (us z).size := by rw [hsz]; rfl
          go_wp2_with (first
            | (refine wpList_load_row rfl 91 (.tmp 1) rfl w.heap.size rfl 91 (us z) (0, 0) _ hB Tryd.underlying91 rfl (by rw [hsz]; kernel_rfl) ?_)
            | (refine wpList_store_new rfl 91 (.tmp 5) (.tmp 46) rfl (us z) rfl rfl (by rw [hsz]; kernel_rfl) hzs hone ?_))
          have hlt2 : w.heap.size + 1 < wr.heap.size := HN.out.res.lt
          obtain ⟨wi, hwi⟩ : ∃ wi : World, wi = wr := ⟨_, rfl⟩
          subst hwi
          go_loopw [47] (fun i wr => ∃ j : Nat, j ≤ 8 ∧ i = .int .i64 j ∧ MixAt w wr (shuf z z j) ∧ Blk wr wi.heap.size 91 (us z)) (fun i _ => 8 - (intOf i).toNat)
          case atStart =>
            exact ⟨0, by omega, rfl, HN.out.alloc _ hlt2, Blk.new _ _ _⟩
          case round =>
            obtain ⟨j, hj, rfl, hN, hO⟩ := hrel
            have hzl := HN.out.len
            clear hB HN hsz hone hzs
            by_cases hjl : j < 8
            · have d1 := hO.cell ((j + 3) % 8)
              rw [us_get z _ (by omega)] at d1
              have d2 := hN.cell j hjl
              have d3 := hN.frozen j
              have HN := Lib.hid hN
              have HO := Lib.hid hO
              clear hN hO
              generalize hv : z.getD ((j + 3) % 8) 0 = v at *
              have Hv := Lib.hid hv
              clear hv
              generalize hy : (shuf z z j).getD j 0 = y at *
              clear hy
              go_wp2
              go_roundw
              case rel =>
                refine ⟨j + 1, by omega, by go_num, ?_, HO.out.far (by simp; omega) _⟩
                have h5 := HN.out.set_ j v
                rw [← Hv.out] at h5 ⊢
                exact h5
              case measure => simp [intOf]; omega
            · have e8 : j = 8 := by omega
              subst e8
              have HN := Lib.hid hN
              have HO := Lib.hid hO
              clear hN hO
              go_wp2
              go_roundw
              case rel =>
                refine ⟨k + 1, by omega, by go_num, ?_⟩
                have e5 : mixTo s (k + 1) = shuf z z 8 := by
                  rw [← Hz.out, ← Hm.out, ← Hx.out, ← Ht.out]; rfl
                rw [e5]
                exact HN.out
              case measure => simp [intOf]; omega
    · have e8 : k = 8 := by omega
      subst e8
      have hB := HM.out.blk
      have hR := HM.out.res
      have hsz := us_size8 _ HM.out.len
      have hone := us_one (mixTo s 8)
      generalize hz : mixTo s 8 = z at *
      have Hz := Lib.hid hz
      clear hz
      go_wp2_with (first
        | (refine wpList_load_row rfl 91 (.tmp 1) rfl w.heap.size rfl 91 (us z) (0, 0) _ hB Tryd.underlying91 rfl (by rw [hsz]; kernel_rfl) ?_)
        | (refine wpList_store_row rfl 91 (.tmp 2) (.tmp 58) rfl (w.heap.size + 1) (us z) rfl rfl 91 _ hR (by rw [hsz]; kernel_rfl) (by rw [hsz]; rfl) hone ?_))
      refine bodyPost_ret (results_cell_row (p := 2) (ty := 91) rfl _ _ (w.heap.size + 1) 91 (us z) (0, 0) _ rfl (setRow_heap _ _ _ _ _ _ hR) Tryd.underlying91 rfl (by rw [hsz]; kernel_rfl)) rfl ⟨?_, ?_⟩
      · rw [← Hz.out]; rfl
      · exact HM.out.bel.setRow (by omega) _
end Go.Proofs.YtamllmoakgnjoaaDoor
