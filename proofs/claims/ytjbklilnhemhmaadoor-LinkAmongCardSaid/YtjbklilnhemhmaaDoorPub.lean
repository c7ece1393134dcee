/- onetime.Public and its closure: what they return is what the plain functions give; the heap only grows. -/
import Derived.Test.YtjbklilnhemhmaaDoorTog
import Derived.Laws.EntriesVeiled
namespace Go.Proofs.YtjbklilnhemhmaaDoor
open Go.RowKit
abbrev walkFn (b : Nat) : Value := .func (.func 111) #[] #[.pointer (some ⟨b, 0, none⟩)]
set_option maxHeartbeats 1000000 in
theorem public1_c (i : Nat) (seed : D) (bw bs b : Nat) (w : World) (hP : Places w) (hi : i < 35) (hw : Blk w bw 115 #[walkFn b]) (hb : Blk w b 30 (us oneE.1)) (hs : Blk w bs 30 (us seed.1)) :
    Calls Tryd.prog 110 #[.int .i64 (i : Int), .pointer (some ⟨bw, 0, none⟩), .pointer (some ⟨bs, 0, none⟩)] w fun e w' => e = .returned (.agg (us (walkE (beginE seed i) 15).1)) ∧ Grow w w' := by
  have HP := Lib.hid hP
  have Hw := Lib.hid hw
  have Hb := Lib.hid hb
  have Hs := Lib.hid hs
  clear hP hw hb hs
  go_enter Tryd.func110, Tryd.ntmps110
  go_upto_region 1 with (fail)
  refine wp_gen (fun W => Blk W w.heap.size 30 (us D.zero.1) ∧ Grow w W) ⟨Blk.new _ _ _, (Grow.refl _).alloc (Nat.le_refl _) _⟩ ?_
  intro w1 h1
  refine wp_region_tail 5 (fun W => Blk W w.heap.size 30 (us D.zero.1) ∧ Grow w W) (by kernel_rfl) (by kernel_rfl) ⟨h1.1.drew, h1.2.drew⟩ ?_
  have H1 := Lib.hid h1
  clear h1
  simp only [List.take_succ_cons, List.take_zero, List.drop_succ_cons, List.drop_zero]
  (refine quiet_ex rfl ?_; apply Exists.intro; refine ⟨fun W hW => ?_, ?_⟩)
  · have c := (Hw.out.grow hW.2).cell 0; simp only [List.getElem?_toArray, List.getElem?_cons_zero] at c; go_simp; try with_reducible rfl
  simp only [Act.put, List.setIfInBounds_toArray, List.set_cons_zero, List.set_cons_succ]
  have s1 := Lib.hid seed.sz
  refine quiet_load_row rfl 30 (.tmp 2) rfl (bs) rfl _ ((us seed.1)) (0, 0) _ (fun W hW => Hs.out.grow hW.2) Tryd.underlying30 rfl (by rw [s1.out]; kernel_rfl) ?_
  simp only [Act.put, List.setIfInBounds_toArray, List.set_cons_zero, List.set_cons_succ]
  (refine quiet_ex rfl ?_; apply Exists.intro; refine ⟨fun W hW => ?_, ?_⟩)
  · go_simp; try with_reducible rfl
  simp only [Act.put, List.setIfInBounds_toArray, List.set_cons_zero, List.set_cons_succ]
  (refine quiet_at rfl ⟨.agg (us (beginE seed i).1), fun W hW => ?_, ?_⟩)
  · go_simp; exact (begin_c seed i _ (HP.out.grow hW.2) (by omega)).mono (fun e w' h => ⟨h.1, hW.1.grow h.2, hW.2.tr h.2⟩)
  simp only [Act.put, List.setIfInBounds_toArray, List.set_cons_zero, List.set_cons_succ]
  (refine quiet_at rfl ⟨.agg (us (walkE (beginE seed i) 15).1), fun W hW => ?_, ?_⟩)
  · go_simp; exact (walk_c (beginE seed i) 15 b _ (HP.out.grow hW.2) (Hb.out.grow hW.2) (by omega)).mono (fun e w' h => ⟨h.1, hW.1.grow h.2, hW.2.tr h.2⟩)
  simp only [Act.put, List.setIfInBounds_toArray, List.set_cons_zero, List.set_cons_succ]
  refine wpQuiet_nil ?_
  intro w2 h2
  have hR := h2.1
  have s2 := (walkE (beginE seed i) 15).sz
  have o2 := (walkE (beginE seed i) 15).one
  have H2 := Lib.hid h2
  clear h2
  generalize hz : walkE (beginE seed i) 15 = z at *
  have Hz := Lib.hid hz
  clear hz
  go_wp2_with (refine wpList_store_row rfl 30 (.tmp 4) (.tmp 9) rfl (w.heap.size) (us z.1) rfl rfl _ _ hR (by rw [s2]; kernel_rfl) (by rw [s2]; exact D.zero.sz) o2 ?_)
  refine bodyPost_ret (results_cell_row (p := 4) (ty := 30) rfl _ _ (w.heap.size) _ (us z.1) (0, 0) _ rfl (setRow_heap _ _ _ _ _ _ hR) Tryd.underlying30 rfl (by rw [s2]; kernel_rfl)) rfl ⟨by rw [Hz.out], ?_⟩
  exact Below.setRow H2.out.2 (Nat.le_refl _) _
theorem callFunc_public1 : ∀ args W, (callFunc 110 args).run Tryd.prog W = .ok (.enter 110 args) W := fun _ _ => by go_simp
set_option maxHeartbeats 1000000 in
theorem public_c (seed : D) (w : World) (hP : Places w) :
    Calls Tryd.prog 97 #[.agg (us seed.1)] w fun e w' => e = .returned (.agg (us (publicE seed).1)) ∧ Grow w w' := by
  have HP := Lib.hid hP
  clear hP
  go_enter Tryd.func97, Tryd.ntmps97
  go_upto_region 1 with (fail)
  refine wp_gen (fun W => Blk W w.heap.size 30 (us seed.1) ∧ Blk W (w.heap.size + 1) 30 (us D.zero.1) ∧ Grow w W) ?_ ?_
  · exact ⟨(Blk.new _ _ _).alloc _, Blk.new1 _ _ _ _, ((Below.refl w.heap.size w).alloc (Nat.le_refl _) _).alloc (by simp) _⟩
  intro w1 h1
  have H1 := Lib.hid h1
  clear h1
  go_wp2_with fail
  refine (along_c _).mono ?_
  rintro e w2 ⟨⟨v, rfl, b, rfl, hb⟩, hg⟩
  have Hb := Lib.hid hb
  have Hg := Lib.hid hg
  clear hb hg
  go_upto_region 2 with (fail)
  refine wp_gen (fun W => Blk W w2.heap.size 115 #[walkFn b] ∧ Grow w2 W) ⟨Blk.new _ _ _, (Grow.refl _).alloc (Nat.le_refl _) _⟩ ?_
  intro w3 h3
  have H3 := Lib.hid h3
  clear h3
  obtain ⟨gw, hgw⟩ : ∃ gw, gw = w2.heap.size := ⟨_, rfl⟩
  rw [← hgw] at H3 ⊢
  clear hgw
  go_wp2_with fail
  have g3 : Grow w w3 := (H1.out.2.2.tr Hg.out).tr H3.out.2
  have G3 := Lib.hid g3
  clear g3
  refine (tog_c 110 #[.pointer (some ⟨gw, 0, none⟩), .pointer (some ⟨w.heap.size, 0, none⟩)] (fun i => walkE (beginE seed i) 15) _ (HP.out.grow G3.out) callFunc_public1
    (fun i W hi hW hPW => public1_c i seed gw w.heap.size b W hPW hi (H3.out.1.grow hW) ((Hb.out.grow H3.out.2).grow hW) (((H1.out.1.grow Hg.out).grow H3.out.2).grow hW))).mono ?_
  rintro e w4 ⟨rfl, hg4⟩
  have hR := ((H1.out.2.1.grow Hg.out).grow H3.out.2).grow hg4
  have G4 := Lib.hid hg4
  clear hg4
  have hz : ofTo (fun i => walkE (beginE seed i) 15) 35 = publicE seed := rfl
  rw [hz]
  have s2 := (publicE seed).sz
  have o2 := (publicE seed).one
  clear hz
  generalize hz : publicE seed = z at *
  have Hz := Lib.hid hz
  clear hz
  go_wp2_with (refine wpList_store_row rfl 30 (.tmp 2) (.tmp 6) rfl (w.heap.size + 1) (us z.1) rfl rfl _ _ hR (by rw [s2]; kernel_rfl) (by rw [s2]; exact D.zero.sz) o2 ?_)
  refine bodyPost_ret (results_cell_row (p := 2) (ty := 30) rfl _ _ (w.heap.size + 1) _ (us z.1) (0, 0) _ rfl (setRow_heap _ _ _ _ _ _ hR) Tryd.underlying30 rfl (by rw [s2]; kernel_rfl)) rfl ⟨by rw [Hz.out], ?_⟩
  exact Below.setRow (G3.out.tr G4.out) (by omega) _
end Go.Proofs.YtjbklilnhemhmaaDoor
