/- store.Root, store.Head and head.Lost. -/
import Derived.Test.YtamllmoakgnjoaaDoorRStore
import Derived.Test.YtamllmoakgnjoaaDoorHdEq
namespace Go.Proofs.YtamllmoakgnjoaaDoor
open Go.RowKit
theorem st_row (A : Option Addr) (n c : Nat) : (Tryd.prog.info? TSt).map (·.size) = some (#[Value.slice A n c]).size := by kernel_rfl
theorem hd_row (k : Int) (d : D) : (Tryd.prog.info? THd).map (·.size) = some (hdC k d).size := by rw [hdC_size]; kernel_rfl
set_option maxRecDepth 100000 in
set_option maxHeartbeats 2000000 in
theorem sroot_c (A : Option Addr) (n c : Nat) (ss : List ByteArray) (w : World) (hn : n ≤ 1000000) (hsm : small ss) (hP : Places w) (hs : SlS w A n c ss) :
    Calls Tryd.prog 41 #[.agg #[.slice A n c]] w fun e w' => e = .returned (.agg (us (rootE noneE (digsE ss)).1)) ∧ Grow w w' := by
  have HS0 := Lib.hid (StAt.new hs hP)
  have HM := Lib.hid hsm
  clear hs hP hsm
  go_enter Tryd.func41, Tryd.ntmps41
  go_upto_region 1 with (fail)
  have hg0 : Grow (w.alloc (.cells #[.slice A n c] TSt)) ((w.alloc (.cells #[.slice A n c] TSt)).alloc (.cells (us D.zero.1) 27)) := (Grow.refl _).alloc (Nat.le_refl _) _
  refine wp_gen (fun W => StAt w W A n c ss ∧ Blk W (w.heap.size + 1) 27 (us D.zero.1)) ⟨HS0.out.grow hg0, Blk.new1 _ _ _ _⟩ ?_
  clear HS0 hg0
  intro w1 h1
  have hB := h1.1.box
  have H1 := Lib.hid h1
  clear h1
  go_wp2_with (refine wpList_load_row_g rfl TSt (.tmp 1) rfl w.heap.size rfl _ #[.slice A n c] (0, 0) _ hB Tryd.underlying24 rfl (st_row A n c) ?_)
  refine (digests_c A n c ss _ hn HM.out H1.out.1.pla H1.out.1.sl).mono ?_
  rintro e w2 ⟨v, rfl, ho, hg2⟩
  obtain ⟨A2, c2, rfl, hs2⟩ := SlD.of_own ho
  have H2 := Lib.hid (And.intro (H1.out.1.grow hg2) (And.intro (H1.out.2.grow hg2) hs2))
  clear ho hs2 hg2 hB
  go_wp2_with fail
  refine (root_c n n (Nat.le_refl _) hn A2 c2 (digsE ss) _ H2.out.1.pla H2.out.2.2).mono ?_
  rintro e w3 ⟨rfl, hg3⟩
  have hR := H2.out.2.1.grow hg3
  have H3 := Lib.hid (H2.out.1.grow hg3)
  clear hg3
  have sy := (rootE noneE (digsE ss)).sz
  have oy := (rootE noneE (digsE ss)).one
  generalize hy : rootE noneE (digsE ss) = y at *
  have Hy := Lib.hid hy
  clear hy
  go_wp2_with (refine wpList_store_row rfl 27 (.tmp 2) (.tmp 5) rfl (w.heap.size + 1) (us y.1) rfl rfl _ _ hR (by rw [sy]; kernel_rfl) (by rw [sy]; exact D.zero.sz) oy ?_)
  refine bodyPost_ret (results_cell_row (p := 2) (ty := 27) rfl _ _ (w.heap.size + 1) _ (us y.1) (0, 0) _ rfl (setRow_heap _ _ _ _ _ _ hR) Tryd.underlying27 rfl (by rw [sy]; kernel_rfl)) rfl ⟨by rw [Hy.out], ?_⟩
  exact H3.out.gro.setRow (by omega) _
set_option maxRecDepth 100000 in
set_option maxHeartbeats 2000000 in
theorem shead_c (A : Option Addr) (n c : Nat) (ss : List ByteArray) (w : World) (hn : n ≤ 1000000) (hsm : small ss) (hP : Places w) (hs : SlS w A n c ss) :
    Calls Tryd.prog 42 #[.agg #[.slice A n c]] w fun e w' => e = .returned (.agg (hdC n (rootE noneE (digsE ss)))) ∧ Grow w w' := by
  have HS0 := Lib.hid (StAt.new hs hP)
  have HM := Lib.hid hsm
  clear hs hP hsm
  go_enter Tryd.func42, Tryd.ntmps42
  go_upto_region 1 with (fail)
  have hg0 : Grow (w.alloc (.cells #[.slice A n c] TSt)) ((w.alloc (.cells #[.slice A n c] TSt)).alloc (.cells (hdC 0 D.zero) THd)) := (Grow.refl _).alloc (Nat.le_refl _) _
  refine wp_gen (fun W => StAt w W A n c ss ∧ Blk W (w.heap.size + 1) THd (hdC 0 D.zero)) ⟨HS0.out.grow hg0, Blk.new1 _ _ _ _⟩ ?_
  clear HS0 hg0
  intro w1 h1
  have H1 := Lib.hid h1
  clear h1
  have hr := Lib.hid (fun W (hW : StAt w W A n c ss) => sroot_c A n c ss W hn HM.out hW.pla hW.sl)
  have bh := Lib.hid (fun y W => build_head n y W)
  generalize hy : rootE noneE (digsE ss) = y at *
  have Hy := Lib.hid hy
  clear hy
  refine wp_region_tail 6 (fun W => StAt w W A n c ss ∧ Blk W (w.heap.size + 1) THd (hdC 0 D.zero)) (by kernel_rfl) (by kernel_rfl) ⟨H1.out.1.grow (Grow.refl _).drew, H1.out.2.drew⟩ ?_
  simp only [List.take_succ_cons, List.take_zero]
  (refine quiet_ex rfl ?_; apply Exists.intro; refine ⟨fun W hW => ?_, ?_⟩)
  · go_simp; try with_reducible rfl
  simp only [Act.put, List.setIfInBounds_toArray, List.set_cons_zero, List.set_cons_succ]
  (refine quiet_ex rfl ?_; apply Exists.intro; refine ⟨fun W hW => ?_, ?_⟩)
  · have c := hW.1.box.cell 0; go_simp; try with_reducible rfl
  simp only [Act.put, List.setIfInBounds_toArray, List.set_cons_zero, List.set_cons_succ]
  (refine quiet_ex rfl ?_; apply Exists.intro; refine ⟨fun W hW => ?_, ?_⟩)
  · go_simp; try with_reducible rfl
  simp only [Act.put, List.setIfInBounds_toArray, List.set_cons_zero, List.set_cons_succ]
  refine quiet_load_row rfl TSt (.tmp 1) rfl w.heap.size rfl _ #[.slice A n c] (0, 0) _ (fun W hW => hW.1.box) Tryd.underlying24 rfl (st_row A n c) ?_
  simp only [Act.put, List.setIfInBounds_toArray, List.set_cons_zero, List.set_cons_succ]
  (refine quiet_at rfl ⟨.agg (us y.1), fun W hW => ?_, ?_⟩)
  · go_simp; exact (hr.out _ hW.1).mono (fun e w' h => ⟨h.1, hW.1.grow h.2, hW.2.grow h.2⟩)
  simp only [Act.put, List.setIfInBounds_toArray, List.set_cons_zero, List.set_cons_succ]
  refine quiet_build rfl THd #[(0, .tmp 5), (1, .tmp 7)] rfl [(0, .int .i64 n), (1, .agg (us y.1))] (by simp only [List.map_toArray, List.map_cons, List.map_nil]; rfl) (.agg (hdC n y)) (fun W => bh.out y W) ?_
  simp only [Act.put, List.setIfInBounds_toArray, List.set_cons_zero, List.set_cons_succ]
  refine wpQuiet_nil ?_
  intro w2 h2
  have hR := h2.2
  have H2 := Lib.hid h2.1
  clear h2
  simp only [List.drop_succ_cons, List.drop_zero]
  have sy := hdC_size n y
  have oy := hdC_one n y
  generalize hz : hdC n y = z at *
  have Hz := Lib.hid hz
  clear hz
  go_wp2_with (refine wpList_store_row rfl THd (.tmp 2) (.tmp 8) rfl (w.heap.size + 1) z rfl rfl _ _ hR (by rw [sy]; kernel_rfl) (by rw [sy]; exact hdC_size _ _) oy ?_)
  refine bodyPost_ret (results_cell_row (p := 2) (ty := THd) rfl _ _ (w.heap.size + 1) _ z (0, 0) _ rfl (setRow_heap _ _ _ _ _ _ hR) Tryd.underlying29 rfl (by rw [sy]; kernel_rfl)) rfl ⟨by rw [Hy.out, Hz.out], ?_⟩
  exact H2.out.gro.setRow (by omega) _
/-- What a head tells of a store: the number of the error. -/
def lostE (ss : List ByteArray) (k : Int) (r : D) : Int :=
  if k < 0 then 1 else if (ss.length : Int) < k then 6 else if rootE noneE (digsE (ss.take k.toNat)) = r then 0 else 8
structure LoAt (w0 w : World) (A : Option Addr) (n c : Nat) (ss : List ByteArray) (k : Int) (r : D) : Prop where
  st : StAt w0 w A n c ss
  hd : Blk w (w0.heap.size + 1) THd (hdC k r)
theorem LoAt.grow {w0 w w' : World} {A : Option Addr} {n c : Nat} {ss : List ByteArray} {k : Int} {r : D} (h : LoAt w0 w A n c ss k r) (hg : Grow w w') : LoAt w0 w' A n c ss k r := ⟨h.st.grow hg, h.hd.grow hg⟩
theorem LoAt.new {w : World} {A : Option Addr} {n c : Nat} {ss : List ByteArray} {k : Int} {r : D} (hs : SlS w A n c ss) (hP : Places w) : LoAt w ((w.alloc (.cells #[.slice A n c] TSt)).alloc (.cells (hdC k r) THd)) A n c ss k r :=
  ⟨(StAt.new hs hP).grow ((Grow.refl _).alloc (Nat.le_refl _) _), Blk.new1 _ _ _ _⟩
set_option maxRecDepth 100000 in
set_option maxHeartbeats 4000000 in
theorem lost_c (A : Option Addr) (n c : Nat) (ss : List ByteArray) (k : Int) (r : D) (w : World) (hk1 : -9223372036854775808 ≤ k) (hk2 : k ≤ 9223372036854775807) (hn : n ≤ 1000000) (hsm : small ss) (hP : Places w) (hs : SlS w A n c ss) :
    Calls Tryd.prog 23 #[.agg #[.slice A n c], .agg (hdC k r)] w fun e w' => e = .returned (.int .i64 (lostE ss k r)) ∧ Grow w w' := by
  have HS0 := Lib.hid (LoAt.new hs hP : LoAt w _ A n c ss k r)
  have HM := Lib.hid hsm
  have HL := Lib.hid hs.2.2.1
  clear hs hP hsm
  by_cases hneg : k < 0
  · have hlo : lostE ss k r = 1 := by unfold lostE; rw [if_pos hneg]
    have Hlo := Lib.hid hlo
    have t1 : decide (k < 0) = true := decide_eq_true hneg
    clear hlo hneg
    go_enter Tryd.func23, Tryd.ntmps23
    go_upto_region 1 with (fail)
    refine wp_gen (fun W => LoAt w W A n c ss k r) HS0.out ?_
    clear HS0
    intro w1 h1
    have c1 := (h1.hd.cell 0).trans (hdC_get0 k r)
    have H1 := Lib.hid h1
    clear h1
    go_wp2_with fail
    go_ret
    exact ⟨by rw [Hlo.out]; rfl, H1.out.st.gro⟩
  · obtain ⟨kn, rfl⟩ : ∃ kn : Nat, k = (kn : Int) := ⟨k.toNat, by omega⟩
    have t1 : decide ((kn : Int) < 0) = false := by simp
    by_cases hgt : n < kn
    · have hlo : lostE ss kn r = 6 := by unfold lostE; rw [if_neg (by omega), if_pos (by rw [HL.out]; omega)]
      have Hlo := Lib.hid hlo
      have t2 : decide (n < kn) = true := by simpa using hgt
      have t3 : decide ((n : Int) < (kn : Int)) = true := by simpa using hgt
      clear hlo hneg hgt
      go_enter Tryd.func23, Tryd.ntmps23
      go_upto_region 1 with (fail)
      refine wp_gen (fun W => LoAt w W A n c ss kn r) HS0.out ?_
      clear HS0
      intro w1 h1
      have c1 := (h1.hd.cell 0).trans (hdC_get0 kn r)
      have c2 := h1.st.box.cell 0
      have H1 := Lib.hid h1
      clear h1
      go_wp2_with fail
      go_ret
      exact ⟨by rw [Hlo.out]; rfl, H1.out.st.gro⟩
    · have hlo : lostE ss kn r = if rootE noneE (digsE (ss.take kn)) = r then 0 else 8 := by unfold lostE; rw [if_neg (by omega), if_neg (by rw [HL.out]; omega)]; rfl
      have Hlo := Lib.hid hlo
      have t2 : decide (n < kn) = false := by simpa using hgt
      have t3 : decide ((n : Int) < (kn : Int)) = false := by simpa using hgt
      have hcc := (HS0.out).st.sl.1
      have hkn : kn ≤ n := by omega
      have hkc : kn ≤ c := by omega
      clear hlo hneg hgt
      go_enter Tryd.func23, Tryd.ntmps23
      go_upto_region 1 with (fail)
      refine wp_gen (fun W => LoAt w W A n c ss kn r) HS0.out ?_
      clear HS0
      intro w1 h1
      have c1 := (h1.hd.cell 0).trans (hdC_get0 kn r)
      have c2 := h1.st.box.cell 0
      have H1 := Lib.hid h1
      clear h1
      go_upto_region 6 with (fail)
      obtain ⟨b5, hb5⟩ : ∃ b, b = w1.heap.size := ⟨_, rfl⟩
      have hga : Grow w1 (w1.alloc (.cells #[.slice A kn kn] TSt)) := (Grow.refl _).alloc (Nat.le_refl _) _
      refine wp_gen (fun W => LoAt w W A n c ss kn r ∧ Blk W b5 TSt #[.slice A kn kn]) ⟨H1.out.grow hga, hb5 ▸ Blk.new _ _ _⟩ ?_
      rw [← hb5]
      clear hga hb5 c1 c2
      intro w2 h2
      have H2 := Lib.hid h2
      clear h2
      have hmk : kn ≤ maxLen := by have := H1.out.st.sl.2.1; omega
      have hr := Lib.hid (fun W (hW : LoAt w W A n c ss kn r) => shead_c A kn kn (ss.take kn) W (by omega) (fun s hs => HM.out s (List.mem_of_mem_take hs)) hW.st.pla (hW.st.sl.take kn kn hkn (Nat.le_refl _) hmk))
      have hh := Lib.hid (fun y W => eqin_head kn kn y r W)
      generalize rootE noneE (digsE (ss.take kn)) = y at *
      obtain ⟨bb, hbb⟩ : ∃ bb, bb = decide (y = r) := ⟨_, rfl⟩
      have Hbb := Lib.hid hbb
      have hh2 := hh.out y
      rw [← hbb, show ((kn : Int) == (kn : Int)) = true by simp, Bool.true_and] at hh2
      clear hbb hmk t2 t3 hkn hkc hcc hn
      refine wp_region_all (fun W => LoAt w W A n c ss kn r ∧ Blk W b5 TSt #[.slice A kn kn]) (by kernel_rfl) (by kernel_rfl) ⟨H2.out.1.grow (Grow.refl _).drew, H2.out.2.drew⟩ ?_
      refine quiet_load_row rfl TSt (.tmp 5) rfl b5 rfl _ #[.slice A kn kn] (0, 0) _ (fun W hW => hW.2) Tryd.underlying24 rfl (st_row A kn kn) ?_
      simp only [Act.put, List.setIfInBounds_toArray, List.set_cons_zero, List.set_cons_succ]
      (refine quiet_at rfl ⟨.agg (hdC kn y), fun W hW => ?_, ?_⟩)
      · go_simp; exact (hr.out _ hW.1).mono (fun e w' h => ⟨h.1, hW.1.grow h.2, hW.2.grow h.2⟩)
      simp only [Act.put, List.setIfInBounds_toArray, List.set_cons_zero, List.set_cons_succ]
      refine quiet_load_row rfl THd (.tmp 3) rfl (w.heap.size + 1) rfl _ (hdC kn r) (0, 0) _ (fun W hW => hW.1.hd) Tryd.underlying29 rfl (hd_row kn r) ?_
      simp only [Act.put, List.setIfInBounds_toArray, List.set_cons_zero, List.set_cons_succ]
      (refine quiet_ex rfl ?_; apply Exists.intro; refine ⟨fun W hW => ?_, ?_⟩)
      · have cc := hh2 W; go_simp; try with_reducible rfl
      simp only [Act.put, List.setIfInBounds_toArray, List.set_cons_zero, List.set_cons_succ]
      refine wpQuiet_nil ?_
      intro w3 h3
      have H3 := Lib.hid h3.1.st.gro
      clear h3
      cases bb
      · have hf := of_decide_eq_false Hbb.out.symm
        have Hf := Lib.hid (show lostE ss kn r = 8 by rw [Hlo.out, if_neg hf])
        clear hf hh2
        go_wp2_with fail
        go_ret
        exact ⟨by rw [Hf.out]; rfl, H3.out⟩
      · have hf := of_decide_eq_true Hbb.out.symm
        have Hf := Lib.hid (show lostE ss kn r = 0 by rw [Hlo.out, if_pos hf])
        clear hf hh2
        go_wp2_with fail
        go_ret
        exact ⟨by rw [Hf.out]; rfl, H3.out⟩
end Go.Proofs.YtamllmoakgnjoaaDoor
