/- The reference's turns and Mix: on any eight words it returns what the plain function mix gives; the heap only grows. -/
import Derived.Test.YtamllmoakgnjoaaDoorPair
namespace Go.Proofs.YtamllmoakgnjoaaDoor
open Go.RowKit
def plcs : Array Value := #[.int .i64 7, .int .i64 9, .int .i64 13, .int .i64 18]
theorem plcs_get (j : Nat) (hj : j < 4) : plcs[j]? = some (.int .i64 (placeN j : Int)) := by
  have h : j = 0 ∨ j = 1 ∨ j = 2 ∨ j = 3 := by omega
  rcases h with rfl | rfl | rfl | rfl <;> rfl
set_option maxHeartbeats 400000 in
theorem turns_any (w : World) : Calls Tryd.prog 94 #[] w fun e w' => e = .returned (.agg plcs) ∧ Grow w w' := by
  go_enter Tryd.func94, Tryd.ntmps94
  go_wp2
  refine bodyPost_ret (v := .agg plcs) ?_ rfl ⟨rfl, (Below.refl _ _).alloc (Nat.le_refl _) _⟩
  simp [results, Tryd.results94, go_sem]
  rfl
/-- What the round's head knows; K is the block of the places. -/
structure RMixAt (w : World) (K : Nat) (wr : World) (t : List UInt32) : Prop where
  blk : Blk wr w.heap.size 91 (us t)
  len : t.length = 8
  res : Blk wr (w.heap.size + 1) 91 (us [0, 0, 0, 0, 0, 0, 0, 0])
  pla : Blk wr K 113 plcs
  lt : w.heap.size + 1 < K
  bel : Below w.heap.size w wr
theorem RMixAt.klt {w : World} {K : Nat} {wr : World} {t : List UInt32} (h : RMixAt w K wr t) : K < wr.heap.size := h.pla.lt
theorem RMixAt.drew {w : World} {K : Nat} {wr : World} {t : List UInt32} (h : RMixAt w K wr t) : RMixAt w K wr.drew t := ⟨h.blk, h.len, h.res, h.pla, h.lt, h.bel.drew⟩
theorem RMixAt.alloc {w : World} {K : Nat} {wr : World} {t : List UInt32} (h : RMixAt w K wr t) (o : Obj) : RMixAt w K (wr.alloc o) t :=
  ⟨h.blk.alloc o, h.len, h.res.alloc o, h.pla.alloc o, h.lt, h.bel.alloc (by have := h.pla.lt; have := h.lt; omega) o⟩
theorem RMixAt.far {w : World} {K : Nat} {wr : World} {t : List UInt32} (h : RMixAt w K wr t) {g : Nat} (hg : K < g) (i : Nat) (x : Value) : RMixAt w K (wr.setCell ⟨g, i, none⟩ x) t :=
  ⟨h.blk.far (by have := h.lt; simp; omega) _, h.len, h.res.far (by have := h.lt; simp; omega) _, h.pla.far (by simp; omega) _, h.lt, h.bel.setCell (by have := h.lt; simp; omega) _⟩
theorem RMixAt.set_ {w : World} {K : Nat} {wr : World} {t : List UInt32} (h : RMixAt w K wr t) (i : Nat) (x : UInt32) : RMixAt w K (wr.setCell ⟨w.heap.size, i, none⟩ (.int .u32 (x.toNat : Int))) (t.set i x) :=
  ⟨us_set t i x ▸ h.blk.set_ i _, by simp [h.len], h.res.far (by simp) _, h.pla.far (by have := h.lt; simp; omega) _, h.lt, h.bel.setCell (Nat.le_refl _) _⟩
theorem RMixAt.row {w : World} {K : Nat} {wr : World} {t : List UInt32} (h : RMixAt w K wr t) (t' : List UInt32) (ht : t'.length = 8) : RMixAt w K (wr.setRow w.heap.size (us t')) t' :=
  ⟨h.blk.setRow _, ht, h.res.setRow_far (by omega) _, h.pla.setRow_far (by have := h.lt; omega) _, h.lt, h.bel.setRow (Nat.le_refl _) _⟩
theorem RMixAt.cell {w : World} {K : Nat} {wr : World} {t : List UInt32} (h : RMixAt w K wr t) (i : Nat) (hi : i < 8) : wr.cell? ⟨w.heap.size, i, none⟩ = some (.int .u32 ((t.getD i 0).toNat : Int)) :=
  (h.blk.cell i).trans (us_get t i (by rw [h.len]; exact hi))
theorem RMixAt.frozen {w : World} {K : Nat} {wr : World} {t : List UInt32} (h : RMixAt w K wr t) (i : Nat) : wr.frozen? ⟨w.heap.size, i, none⟩ = false := h.blk.frozen i
theorem plcs_one : plcs.all (·.oneCell') = true := by simp [plcs, Value.oneCell']
set_option maxRecDepth 100000 in
set_option maxHeartbeats 1000000 in
theorem rmix_any (s : List UInt32) (hs : s.length = 8) (w : World) :
    Calls Tryd.prog 91 #[.agg (us s)] w fun e w' => e = .returned (.agg (us (mix s))) ∧ Grow w w' := by
  have Hs := Lib.hid hs
  clear hs
  go_enter Tryd.func91, Tryd.ntmps91
  go_upto_region 1 with (fail)
  refine wp_gen (fun W => Blk W w.heap.size 91 (us s) ∧ Blk W (w.heap.size + 1) 91 (us [0, 0, 0, 0, 0, 0, 0, 0]) ∧ Below w.heap.size w W) ?_ ?_
  · exact ⟨(Blk.new _ _ _).alloc _, Blk.new1 _ _ _ _, ((Below.refl _ _).alloc (Nat.le_refl _) _).alloc (by simp) _⟩
  intro w1 hA
  have HA := Lib.hid hA
  clear hA
  go_wp2_with fail
  refine (turns_any _).mono ?_
  rintro e w2 ⟨rfl, hg⟩
  have hM0 : RMixAt w w2.heap.size (w2.alloc (.cells plcs 113)) (mixTo s 0) :=
    ⟨(HA.out.1.grow hg).alloc _, Hs.out, (HA.out.2.1.grow hg).alloc _, Blk.new _ _ _, (HA.out.2.1.grow hg).lt, (below_tr HA.out.2.2 hg HA.out.2.2.size).alloc (Nat.le_trans HA.out.2.2.size hg.size) _⟩
  have HM0 := Lib.hid hM0
  have pone := plcs_one
  clear hM0 HA hg
  go_wp2_with (refine wpList_store_new rfl 113 (.tmp 3) (.tmp 8) rfl plcs rfl rfl (by kernel_rfl) (by rfl) pone ?_)
  obtain ⟨K, hK⟩ : ∃ K, K = w2.heap.size := ⟨_, rfl⟩
  rw [← hK] at HM0 ⊢
  clear hK pone
  go_loopw [4] (fun r wr => ∃ k : Nat, k ≤ 8 ∧ r = .int .i64 k ∧ RMixAt w K wr (mixTo s k)) (fun r _ => 8 - (intOf r).toNat)
  case atStart =>
    exact ⟨0, by omega, rfl, HM0.out⟩
  case round =>
    obtain ⟨k, hk, rfl, hM⟩ := hrel
    have HM := Lib.hid hM
    clear hM
    by_cases hlt : k < 8
    · have c0 := HM.out.cell 0 (by omega)
      have f0 := HM.out.frozen 0
      generalize ht : mixTo s k = t at *
      have Ht := Lib.hid ht
      clear ht
      generalize hx : t.getD 0 0 = x at *
      have Hx := Lib.hid hx
      clear hx
      have hm := u32_mul_step k hlt
      generalize hmm : (2654435769 * (UInt32.ofNat k + 1) : UInt32) = m at *
      have Hm := Lib.hid hmm
      clear hmm
      have hm' : 2654435769 * ((k : Int) + 1) % 4294967296 = (m.toNat : Int) := hm
      clear hm
      have hk8 : decide ((k : Int) < 8) = true := by simp; omega
      go_wp2_with fail
      clear hk8 hm'
      obtain ⟨wo, hwo⟩ : ∃ wo : World, wo = wr := ⟨_, rfl⟩
      subst hwo
      go_loopw [5] (fun i wr => ∃ j : Nat, j ≤ 4 ∧ i = .int .i64 j ∧ RMixAt w K wr (inner (t.set 0 (x + m)) j)) (fun i _ => 4 - (intOf i).toNat)
      case atStart =>
        refine ⟨0, by omega, rfl, ?_⟩
        have e : (((x.toNat : Int) + (m.toNat : Int)) % 4294967296) = ((x + m).toNat : Int) := u32_add x m
        rw [e]
        exact HM.out.set_ 0 _
      case round =>
        obtain ⟨j, hj, rfl, hN⟩ := hrel
        clear c0 f0 HM
        by_cases hjl : j < 4
        · have c1 := hN.cell j (by omega)
          have c2 := hN.cell (j + 4) (by omega)
          have f1 := hN.frozen j
          have f2 := hN.frozen (j + 4)
          have HN := Lib.hid hN
          have b1 : (0 : Int) ≤ j := by omega
          have b2 : (j : Int) < 8 := by omega
          have b3 : (0 : Int) ≤ (j : Int) + 4 := by omega
          have b4 : (j : Int) + 4 < 8 := by omega
          have b5 : IntKind.i64.wrap ((j : Int) + 4) = (j : Int) + 4 := IntWalk.i64_in _ (by omega)
          have b6 : ((j : Int) + 4).toNat = j + 4 := by omega
          clear hN
          generalize hz : inner (t.set 0 (x + m)) j = z at *
          have Hz := Lib.hid hz
          clear hz
          generalize ha : z.getD j 0 = a at *
          generalize hb : z.getD (j + 4) 0 = b at *
          have Ha := Lib.hid ha
          have Hb := Lib.hid hb
          clear ha hb
          go_wp2_with fail
          go_still_tail 10, (by kernel_rfl)
          go_wp2_with fail
          refine wp_gen (fun W => RMixAt w K W (z.set j (a + b))) ?_ ?_
          · have e : (((a.toNat : Int) + (b.toNat : Int)) % 4294967296) = ((a + b).toNat : Int) := u32_add a b
            rw [e]
            exact (HN.out.set_ j (a + b)).drew
          intro w3 h3
          clear c1 c2 f1 f2
          generalize hz1 : z.set j (a + b) = z1 at *
          have Hz1 := Lib.hid hz1
          clear hz1
          generalize hp : z1.getD (j + 4) 0 = p at *
          generalize hq : z1.getD j 0 = q at *
          have Hp := Lib.hid hp
          have Hq := Lib.hid hq
          clear hp hq
          refine wp_region_tail 15 (fun W => RMixAt w K W z1) (by kernel_rfl) (by kernel_rfl) h3.drew ?_
          simp only [List.take_succ_cons, List.take_zero, List.drop_succ_cons, List.drop_zero]
          (refine quiet_ex rfl ?_; apply Exists.intro; refine ⟨fun W hW => ?_, ?_⟩)
          · go_simp; try with_reducible rfl
          simp only [Act.put, List.setIfInBounds_toArray, List.set_cons_zero, List.set_cons_succ]
          (refine quiet_ex rfl ?_; apply Exists.intro; refine ⟨fun W hW => ?_, ?_⟩)
          · go_simp; try with_reducible rfl
          simp only [Act.put, List.setIfInBounds_toArray, List.set_cons_zero, List.set_cons_succ]
          (refine quiet_ex rfl ?_; apply Exists.intro; refine ⟨fun W hW => ?_, ?_⟩)
          · go_simp; try with_reducible rfl
          simp only [Act.put, List.setIfInBounds_toArray, List.set_cons_zero, List.set_cons_succ]
          (refine quiet_ex rfl ?_; apply Exists.intro; refine ⟨fun W hW => ?_, ?_⟩)
          · go_simp; try with_reducible rfl
          simp only [Act.put, List.setIfInBounds_toArray, List.set_cons_zero, List.set_cons_succ]
          (refine quiet_ex rfl ?_; apply Exists.intro; refine ⟨fun W hW => ?_, ?_⟩)
          · go_simp; try with_reducible rfl
          simp only [Act.put, List.setIfInBounds_toArray, List.set_cons_zero, List.set_cons_succ]
          (refine quiet_ex rfl ?_; apply Exists.intro; refine ⟨fun W hW => ?_, ?_⟩)
          · have c := hW.cell (j + 4) (by omega); rw [Hp.out] at c; go_simp; try with_reducible rfl
          simp only [Act.put, List.setIfInBounds_toArray, List.set_cons_zero, List.set_cons_succ]
          (refine quiet_ex rfl ?_; apply Exists.intro; refine ⟨fun W hW => ?_, ?_⟩)
          · go_simp; try with_reducible rfl
          simp only [Act.put, List.setIfInBounds_toArray, List.set_cons_zero, List.set_cons_succ]
          (refine quiet_ex rfl ?_; apply Exists.intro; refine ⟨fun W hW => ?_, ?_⟩)
          · go_simp; try with_reducible rfl
          simp only [Act.put, List.setIfInBounds_toArray, List.set_cons_zero, List.set_cons_succ]
          (refine quiet_ex rfl ?_; apply Exists.intro; refine ⟨fun W hW => ?_, ?_⟩)
          · have c := hW.cell j (by omega); rw [Hq.out] at c; go_simp; try with_reducible rfl
          simp only [Act.put, List.setIfInBounds_toArray, List.set_cons_zero, List.set_cons_succ]
          (refine quiet_ex rfl ?_; apply Exists.intro; refine ⟨fun W hW => ?_, ?_⟩)
          · have e := u32_xor p q; go_simp; try with_reducible rfl
          simp only [Act.put, List.setIfInBounds_toArray, List.set_cons_zero, List.set_cons_succ]
          (refine quiet_ex rfl ?_; apply Exists.intro; refine ⟨fun W hW => ?_, ?_⟩)
          · go_simp; try with_reducible rfl
          simp only [Act.put, List.setIfInBounds_toArray, List.set_cons_zero, List.set_cons_succ]
          (refine quiet_ex rfl ?_; apply Exists.intro; refine ⟨fun W hW => ?_, ?_⟩)
          · go_simp; try with_reducible rfl
          simp only [Act.put, List.setIfInBounds_toArray, List.set_cons_zero, List.set_cons_succ]
          (refine quiet_ex rfl ?_; apply Exists.intro; refine ⟨fun W hW => ?_, ?_⟩)
          · have c := (hW.pla.cell j).trans (plcs_get j hjl); go_simp; try with_reducible rfl
          simp only [Act.put, List.setIfInBounds_toArray, List.set_cons_zero, List.set_cons_succ]
          (refine quiet_at rfl ⟨.int .u32 ((rot (placeN j) (p ^^^ q)).toNat : Int), fun W hW => ?_, ?_⟩)
          · go_simp; exact (tref_any (p ^^^ q) _ _ (placeN_cases j hjl)).mono (fun e w' h => ⟨by simpa using h.1, by rw [← h.2]; exact hW⟩)
          simp only [Act.put, List.setIfInBounds_toArray, List.set_cons_zero, List.set_cons_succ]
          (refine quiet_ex rfl ?_; apply Exists.intro; refine ⟨fun W hW => ?_, ?_⟩)
          · go_simp; try with_reducible rfl
          simp only [Act.put, List.setIfInBounds_toArray, List.set_cons_zero, List.set_cons_succ]
          refine wpQuiet_nil ?_
          intro w4 h4
          have f1 := h4.frozen (j + 4)
          have c1 := h4.cell (j + 4) (by omega)
          clear h3
          have H4 := Lib.hid h4
          clear h4
          go_wp2
          go_roundw
          case rel =>
            refine ⟨j + 1, by omega, by go_num, ?_⟩
            have h5 := H4.out.set_ (j + 4) (rot (placeN j) (p ^^^ q))
            have e5 : inner (t.set 0 (x + m)) (j + 1) = z1.set (j + 4) (rot (placeN j) (p ^^^ q)) := by
              rw [← Hp.out, ← Hq.out, ← Hz1.out, ← Ha.out, ← Hb.out, ← Hz.out]; rfl
            rw [e5]
            exact h5
          case measure => simp [intOf]; omega
        · have e4 : j = 4 := by omega
          subst e4
          have HN := Lib.hid hN
          clear hN
          generalize hz : inner (t.set 0 (x + m)) 4 = z at *
          have Hz := Lib.hid hz
          clear hz
          go_upto_region 12 with (fail)
          have hlt2 : w.heap.size + 1 < wr.heap.size := HN.out.res.lt
          obtain ⟨L, hL⟩ : ∃ L, L = wr.heap.size := ⟨_, rfl⟩
          have hKL : K < L := hL ▸ HN.out.klt
          have hS0 : RMixAt w K (wr.alloc (.cells (us [0, 0, 0, 0, 0, 0, 0, 0]) 91)) z ∧ Blk (wr.alloc (.cells (us [0, 0, 0, 0, 0, 0, 0, 0]) 91)) L 91 (us (shuf z [0, 0, 0, 0, 0, 0, 0, 0] 0)) :=
            ⟨HN.out.alloc _, hL ▸ Blk.new _ _ _⟩
          have HS0 := Lib.hid hS0
          clear hS0 hlt2
          rw [← hL]
          clear hL
          refine wp_gen (fun W => RMixAt w K W z ∧ Blk W L 91 (us (shuf z [0, 0, 0, 0, 0, 0, 0, 0] 0))) HS0.out ?_
          intro w5 h5
          have H5 := Lib.hid h5
          clear h5
          go_wp2_with fail
          go_loopw [7] (fun i wr => ∃ j : Nat, j ≤ 8 ∧ i = .int .i64 j ∧ RMixAt w K wr z ∧ Blk wr L 91 (us (shuf z [0, 0, 0, 0, 0, 0, 0, 0] j))) (fun i _ => 8 - (intOf i).toNat)
          case atStart =>
            exact ⟨0, by omega, rfl, H5.out⟩
          case round =>
            obtain ⟨j, hj, rfl, hN, hO⟩ := hrel
            clear HN
            have hzl := hN.len
            have hsl : (shuf z [0, 0, 0, 0, 0, 0, 0, 0] j).length = 8 := shuf_length _ _ _
            by_cases hjl : j < 8
            · have d1 := hN.cell ((j + 3) % 8) (by omega)
              have d2 := (hO.cell j).trans (us_get _ j (by omega))
              have d3 := hO.frozen j
              have HN := Lib.hid hN
              have HO := Lib.hid hO
              clear hN hO
              generalize hv : z.getD ((j + 3) % 8) 0 = v at *
              have Hv := Lib.hid hv
              clear hv
              generalize hy : (shuf z [0, 0, 0, 0, 0, 0, 0, 0] j).getD j 0 = y at *
              clear hy hsl
              go_wp2
              go_roundw
              case rel =>
                refine ⟨j + 1, by omega, by go_num, HN.out.far hKL _ _, ?_⟩
                have h5 := HO.out.set_ j (.int .u32 (v.toNat : Int))
                rw [us_set] at h5
                have e5 : shuf z [0, 0, 0, 0, 0, 0, 0, 0] (j + 1) = (shuf z [0, 0, 0, 0, 0, 0, 0, 0] j).set j v := by rw [← Hv.out]; rfl
                rw [e5]
                exact h5
              case measure => simp [intOf]; omega
            · have e8 : j = 8 := by omega
              subst e8
              have hsz := us_size8 _ hsl
              have hone := us_one (shuf z [0, 0, 0, 0, 0, 0, 0, 0] 8)
              have hB := hO
              have hS := hN.blk
              have hsz2 : (us z).size = (us (shuf z [0, 0, 0, 0, 0, 0, 0, 0] 8)).size := by rw [hsz, us_size8 _ hzl]
              have HN := Lib.hid hN
              have Hsl := Lib.hid hsl
              clear hN hO hsl
              generalize hf : shuf z [0, 0, 0, 0, 0, 0, 0, 0] 8 = f at *
              have Hf := Lib.hid hf
              clear hf
              go_wp2_with (first
                | (refine wpList_load_row rfl 91 (.tmp 6) rfl L rfl 91 (us f) (0, 0) _ hB Tryd.underlying91 rfl (by rw [hsz]; kernel_rfl) ?_)
                | (refine wpList_store_row rfl 91 (.tmp 1) (.tmp 61) rfl w.heap.size (us f) rfl rfl 91 _ hS (by rw [hsz]; kernel_rfl) hsz2 hone ?_))
              go_roundw
              case rel =>
                refine ⟨k + 1, by omega, by go_num, ?_⟩
                have e5 : mixTo s (k + 1) = f := by
                  rw [← Hf.out, shuf_8 z _ z rfl hzl, ← Hz.out, ← Hm.out, ← Hx.out, ← Ht.out]; rfl
                rw [e5]
                exact HN.out.row f Hsl.out
              case measure => simp [intOf]; omega
    · have e8 : k = 8 := by omega
      subst e8
      have hB := HM.out.blk
      have hR := HM.out.res
      have hsz := us_size8 _ HM.out.len
      have hone := us_one (mixTo s 8)
      generalize hz : mixTo s 8 = z at *
      have Hz := Lib.hid hz
      clear hz
      go_wp2_with (first
        | (refine wpList_load_row rfl 91 (.tmp 1) rfl w.heap.size rfl 91 (us z) (0, 0) _ hB Tryd.underlying91 rfl (by rw [hsz]; kernel_rfl) ?_)
        | (refine wpList_store_row rfl 91 (.tmp 2) (.tmp 62) rfl (w.heap.size + 1) (us z) rfl rfl 91 _ hR (by rw [hsz]; kernel_rfl) (by rw [hsz]; rfl) hone ?_))
      refine bodyPost_ret (results_cell_row (p := 2) (ty := 91) rfl _ _ (w.heap.size + 1) 91 (us z) (0, 0) _ rfl (setRow_heap _ _ _ _ _ _ hR) Tryd.underlying91 rfl (by rw [hsz]; kernel_rfl)) rfl ⟨?_, ?_⟩
      · rw [← Hz.out]; rfl
      · exact HM.out.bel.setRow (by omega) _
end Go.Proofs.YtamllmoakgnjoaaDoor
