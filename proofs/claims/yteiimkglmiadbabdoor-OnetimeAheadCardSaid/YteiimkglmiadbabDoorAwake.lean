/- seedcornlaw05.awake answers true: the fixed facts of the one-time signatures. -/
import Derived.Test.YteiimkglmiadbabDoorReach
namespace Go.Proofs.YteiimkglmiadbabDoor
open Go.RowKit
def dOne : D := ⟨[1, 0, 0, 0], rfl⟩
def dTwo : D := ⟨[2, 0, 0, 0], rfl⟩
theorem steps_zero : (stepsE D.zero).getD 0 0 = 0 ∧ (stepsE D.zero).getD 32 0 = 1 ∧ (stepsE D.zero).getD 33 0 = 14 ∧ (stepsE D.zero).getD 34 0 = 0 := by decide +kernel
theorem check_nil (pub msg : D) : checkE pub msg [] = false := by simp [checkE]
/-- What stands at the last statement of awake. -/
structure AwakeAt (w : World) (gs cs : Nat) (b2 b3 : Nat) (A : Option Addr) (c : Nat) : Prop where
  pla : Places w
  st : w.ownsRow 0 3 1 (.slice (some ⟨gs, 0, none⟩) 35 cs) 35 (ints (stepsE D.zero))
  one : Blk w b2 24 (us dOne.1)
  two : Blk w b3 24 (us dTwo.1)
  sl : SlD w A 35 c (signE dOne dTwo)
theorem AwakeAt.grow {w w' : World} {gs cs b2 b3 : Nat} {A : Option Addr} {c : Nat} (h : AwakeAt w gs cs b2 b3 A c) (hg : Grow w w') : AwakeAt w' gs cs b2 b3 A c :=
  ⟨h.pla.grow hg, ownsRow_grow h.st hg, h.one.grow hg, h.two.grow hg, h.sl.grow hg⟩
set_option maxRecDepth 100000 in
set_option maxHeartbeats 2000000 in
theorem awake_c (w : World) (hP : Places w) : Calls Tryd.prog 4 #[] w fun e w' => e = .returned (.bool true) ∧ Grow w w' := by
  have HP := Lib.hid hP
  clear hP
  go_enter Tryd.func4, Tryd.ntmps4
  go_wp2_with fail
  refine (steps_c D.zero _).mono ?_
  rintro e w1 ⟨vs, rfl, hst, hg1⟩
  obtain ⟨gs, cs, rfl, -, -, -, -⟩ := own_ints hst (by omega)
  have HS := Lib.hid hst
  have G1 := Lib.hid hg1
  clear hst hg1
  go_upto_region 3 with (fail)
  obtain ⟨b2, hb2⟩ : ∃ b, b = w1.heap.size := ⟨_, rfl⟩
  refine wp_gen (fun W => Blk W b2 24 (us dOne.1) ∧ Blk W (b2 + 1) 24 (us dTwo.1) ∧ Grow w1 W) (hb2 ▸ ⟨(Blk.new _ _ _).alloc _, Blk.new1 _ _ _ _, ((Grow.refl w1).alloc (Nat.le_refl _) _).alloc (by simp) _⟩) ?_
  rw [← hb2]
  clear hb2
  intro w2 h2
  have H2 := Lib.hid h2
  have d1 := h2.1
  have d2 := h2.2.1
  have s1 := dOne.sz
  have s2 := dTwo.sz
  clear h2
  go_wp2_with (first
    | (refine wpList_load_row_g rfl 24 (.tmp 2) rfl (b2) rfl _ (us dOne.1) (0, 0) _ d1 Tryd.underlying24 rfl (by rw [s1]; kernel_rfl) ?_)
    | (refine wpList_load_row_g rfl 24 (.tmp 3) rfl (b2 + 1) rfl _ (us dTwo.1) (0, 0) _ d2 Tryd.underlying24 rfl (by rw [s2]; kernel_rfl) ?_))
  have P2 := Lib.hid ((HP.out.grow G1.out).grow H2.out.2.2)
  refine (sign_c dOne dTwo _ P2.out).mono ?_
  rintro e w3 ⟨v, rfl, hsg, hg3⟩
  obtain ⟨A, c, rfl, hsl⟩ := SlD.of_own hsg
  have HA := Lib.hid (AwakeAt.mk (P2.out.grow hg3) (ownsRow_base (ownsRow_grow (ownsRow_grow HS.out H2.out.2.2) hg3) (Nat.zero_le _)) (d1.grow hg3) (d2.grow hg3) hsl : AwakeAt w3 gs cs b2 (b2 + 1) A c)
  have G3 := Lib.hid ((G1.out.tr H2.out.2.2).tr hg3)
  clear hsg hg3 hsl d1 d2 P2 H2 HS G1 s1 s2
  have S1 := Lib.hid dOne.sz
  have S2 := Lib.hid dTwo.sz
  go_upto_region 4 with (fail)
  have z := Lib.hid steps_zero
  have h35 : (((35 : Nat) : Int) == 35) = true := by decide
  refine wp_region_all (fun W => AwakeAt W gs cs b2 (b2 + 1) A c ∧ Grow w W) (by kernel_rfl) (by kernel_rfl) ⟨HA.out.grow (Grow.refl _).drew, G3.out.drew⟩ ?_
  (refine quiet_ex rfl ?_; apply Exists.intro; refine ⟨fun W hW => ?_, ?_⟩)
  · go_simp; try with_reducible rfl
  simp only [Act.put, List.setIfInBounds_toArray, List.set_cons_zero, List.set_cons_succ]
  (refine quiet_ex rfl ?_; apply Exists.intro; refine ⟨fun W hW => ?_, ?_⟩)
  · go_simp; try with_reducible rfl
  simp only [Act.put, List.setIfInBounds_toArray, List.set_cons_zero, List.set_cons_succ]
  (refine quiet_ex rfl ?_; apply Exists.intro; refine ⟨fun W hW => ?_, ?_⟩)
  · go_simp; try with_reducible rfl
  simp only [Act.put, List.setIfInBounds_toArray, List.set_cons_zero, List.set_cons_succ]
  (refine quiet_ex rfl ?_; apply Exists.intro; refine ⟨fun W hW => ?_, ?_⟩)
  · go_simp; try with_reducible rfl
  simp only [Act.put, List.setIfInBounds_toArray, List.set_cons_zero, List.set_cons_succ]
  (refine quiet_ex rfl ?_; apply Exists.intro; refine ⟨fun W hW => ?_, ?_⟩)
  · go_simp; try with_reducible rfl
  simp only [Act.put, List.setIfInBounds_toArray, List.set_cons_zero, List.set_cons_succ]
  (refine quiet_ex rfl ?_; apply Exists.intro; refine ⟨fun W hW => ?_, ?_⟩)
  · go_simp; try with_reducible rfl
  simp only [Act.put, List.setIfInBounds_toArray, List.set_cons_zero, List.set_cons_succ]
  (refine quiet_ex rfl ?_; apply Exists.intro; refine ⟨fun W hW => ?_, ?_⟩)
  · have cc := own_ints_lit hW.1.st (by omega) W (Grow.refl _) 0 (by omega); rw [z.out.1] at cc; go_simp; try with_reducible rfl
  simp only [Act.put, List.setIfInBounds_toArray, List.set_cons_zero, List.set_cons_succ]
  (refine quiet_ex rfl ?_; apply Exists.intro; refine ⟨fun W hW => ?_, ?_⟩)
  · go_simp; try with_reducible rfl
  simp only [Act.put, List.setIfInBounds_toArray, List.set_cons_zero, List.set_cons_succ]
  (refine quiet_ex rfl ?_; apply Exists.intro; refine ⟨fun W hW => ?_, ?_⟩)
  · go_simp; try with_reducible rfl
  simp only [Act.put, List.setIfInBounds_toArray, List.set_cons_zero, List.set_cons_succ]
  (refine quiet_ex rfl ?_; apply Exists.intro; refine ⟨fun W hW => ?_, ?_⟩)
  · go_simp; try with_reducible rfl
  simp only [Act.put, List.setIfInBounds_toArray, List.set_cons_zero, List.set_cons_succ]
  (refine quiet_ex rfl ?_; apply Exists.intro; refine ⟨fun W hW => ?_, ?_⟩)
  · go_simp; try with_reducible rfl
  simp only [Act.put, List.setIfInBounds_toArray, List.set_cons_zero, List.set_cons_succ]
  (refine quiet_ex rfl ?_; apply Exists.intro; refine ⟨fun W hW => ?_, ?_⟩)
  · go_simp; try with_reducible rfl
  simp only [Act.put, List.setIfInBounds_toArray, List.set_cons_zero, List.set_cons_succ]
  (refine quiet_ex rfl ?_; apply Exists.intro; refine ⟨fun W hW => ?_, ?_⟩)
  · have cc := own_ints_lit hW.1.st (by omega) W (Grow.refl _) 32 (by omega); rw [z.out.2.1] at cc; go_simp; try with_reducible rfl
  simp only [Act.put, List.setIfInBounds_toArray, List.set_cons_zero, List.set_cons_succ]
  (refine quiet_ex rfl ?_; apply Exists.intro; refine ⟨fun W hW => ?_, ?_⟩)
  · go_simp; try with_reducible rfl
  simp only [Act.put, List.setIfInBounds_toArray, List.set_cons_zero, List.set_cons_succ]
  (refine quiet_ex rfl ?_; apply Exists.intro; refine ⟨fun W hW => ?_, ?_⟩)
  · go_simp; try with_reducible rfl
  simp only [Act.put, List.setIfInBounds_toArray, List.set_cons_zero, List.set_cons_succ]
  (refine quiet_ex rfl ?_; apply Exists.intro; refine ⟨fun W hW => ?_, ?_⟩)
  · go_simp; try with_reducible rfl
  simp only [Act.put, List.setIfInBounds_toArray, List.set_cons_zero, List.set_cons_succ]
  (refine quiet_ex rfl ?_; apply Exists.intro; refine ⟨fun W hW => ?_, ?_⟩)
  · go_simp; try with_reducible rfl
  simp only [Act.put, List.setIfInBounds_toArray, List.set_cons_zero, List.set_cons_succ]
  (refine quiet_ex rfl ?_; apply Exists.intro; refine ⟨fun W hW => ?_, ?_⟩)
  · go_simp; try with_reducible rfl
  simp only [Act.put, List.setIfInBounds_toArray, List.set_cons_zero, List.set_cons_succ]
  (refine quiet_ex rfl ?_; apply Exists.intro; refine ⟨fun W hW => ?_, ?_⟩)
  · have cc := own_ints_lit hW.1.st (by omega) W (Grow.refl _) 33 (by omega); rw [z.out.2.2.1] at cc; go_simp; try with_reducible rfl
  simp only [Act.put, List.setIfInBounds_toArray, List.set_cons_zero, List.set_cons_succ]
  (refine quiet_ex rfl ?_; apply Exists.intro; refine ⟨fun W hW => ?_, ?_⟩)
  · go_simp; try with_reducible rfl
  simp only [Act.put, List.setIfInBounds_toArray, List.set_cons_zero, List.set_cons_succ]
  (refine quiet_ex rfl ?_; apply Exists.intro; refine ⟨fun W hW => ?_, ?_⟩)
  · go_simp; try with_reducible rfl
  simp only [Act.put, List.setIfInBounds_toArray, List.set_cons_zero, List.set_cons_succ]
  (refine quiet_ex rfl ?_; apply Exists.intro; refine ⟨fun W hW => ?_, ?_⟩)
  · go_simp; try with_reducible rfl
  simp only [Act.put, List.setIfInBounds_toArray, List.set_cons_zero, List.set_cons_succ]
  (refine quiet_ex rfl ?_; apply Exists.intro; refine ⟨fun W hW => ?_, ?_⟩)
  · go_simp; try with_reducible rfl
  simp only [Act.put, List.setIfInBounds_toArray, List.set_cons_zero, List.set_cons_succ]
  (refine quiet_ex rfl ?_; apply Exists.intro; refine ⟨fun W hW => ?_, ?_⟩)
  · go_simp; try with_reducible rfl
  simp only [Act.put, List.setIfInBounds_toArray, List.set_cons_zero, List.set_cons_succ]
  (refine quiet_ex rfl ?_; apply Exists.intro; refine ⟨fun W hW => ?_, ?_⟩)
  · have cc := own_ints_lit hW.1.st (by omega) W (Grow.refl _) 34 (by omega); rw [z.out.2.2.2] at cc; go_simp; try with_reducible rfl
  simp only [Act.put, List.setIfInBounds_toArray, List.set_cons_zero, List.set_cons_succ]
  (refine quiet_ex rfl ?_; apply Exists.intro; refine ⟨fun W hW => ?_, ?_⟩)
  · go_simp; try with_reducible rfl
  simp only [Act.put, List.setIfInBounds_toArray, List.set_cons_zero, List.set_cons_succ]
  (refine quiet_ex rfl ?_; apply Exists.intro; refine ⟨fun W hW => ?_, ?_⟩)
  · go_simp; try with_reducible rfl
  simp only [Act.put, List.setIfInBounds_toArray, List.set_cons_zero, List.set_cons_succ]
  (refine quiet_ex rfl ?_; apply Exists.intro; refine ⟨fun W hW => ?_, ?_⟩)
  · go_simp; try with_reducible rfl
  simp only [Act.put, List.setIfInBounds_toArray, List.set_cons_zero, List.set_cons_succ]
  refine quiet_load_row rfl 24 (.tmp 2) rfl (b2) rfl _ ((us dOne.1)) (0, 0) _ (fun W hW => hW.1.one) Tryd.underlying24 rfl (by rw [S1.out]; kernel_rfl) ?_
  simp only [Act.put, List.setIfInBounds_toArray, List.set_cons_zero, List.set_cons_succ]
  (refine quiet_at rfl ⟨.agg (us (publicE dOne).1), fun W hW => ?_, ?_⟩)
  · go_simp; exact (public_c dOne _ hW.1.pla).mono (fun e w' h => ⟨h.1, hW.1.grow h.2, hW.2.tr h.2⟩)
  simp only [Act.put, List.setIfInBounds_toArray, List.set_cons_zero, List.set_cons_succ]
  refine quiet_load_row rfl 24 (.tmp 3) rfl ((b2 + 1)) rfl _ ((us dTwo.1)) (0, 0) _ (fun W hW => hW.1.two) Tryd.underlying24 rfl (by rw [S2.out]; kernel_rfl) ?_
  simp only [Act.put, List.setIfInBounds_toArray, List.set_cons_zero, List.set_cons_succ]
  (refine quiet_ex rfl ?_; apply Exists.intro; refine ⟨fun W hW => ?_, ?_⟩)
  · go_simp; try with_reducible rfl
  simp only [Act.put, List.setIfInBounds_toArray, List.set_cons_zero, List.set_cons_succ]
  (refine quiet_at rfl ⟨.bool true, fun W hW => ?_, ?_⟩)
  · go_simp; exact (check_c (publicE dOne) dTwo A 35 c (signE dOne dTwo) _ hW.1.pla hW.1.sl).mono (fun e w' h => ⟨by rw [h.1, check_sign], hW.1.grow h.2, hW.2.tr h.2⟩)
  simp only [Act.put, List.setIfInBounds_toArray, List.set_cons_zero, List.set_cons_succ]
  (refine quiet_ex rfl ?_; apply Exists.intro; refine ⟨fun W hW => ?_, ?_⟩)
  · go_simp; try with_reducible rfl
  simp only [Act.put, List.setIfInBounds_toArray, List.set_cons_zero, List.set_cons_succ]
  (refine quiet_ex rfl ?_; apply Exists.intro; refine ⟨fun W hW => ?_, ?_⟩)
  · go_simp; try with_reducible rfl
  simp only [Act.put, List.setIfInBounds_toArray, List.set_cons_zero, List.set_cons_succ]
  refine quiet_load_row rfl 24 (.tmp 2) rfl (b2) rfl _ ((us dOne.1)) (0, 0) _ (fun W hW => hW.1.one) Tryd.underlying24 rfl (by rw [S1.out]; kernel_rfl) ?_
  simp only [Act.put, List.setIfInBounds_toArray, List.set_cons_zero, List.set_cons_succ]
  (refine quiet_at rfl ⟨.agg (us (publicE dOne).1), fun W hW => ?_, ?_⟩)
  · go_simp; exact (public_c dOne _ hW.1.pla).mono (fun e w' h => ⟨h.1, hW.1.grow h.2, hW.2.tr h.2⟩)
  simp only [Act.put, List.setIfInBounds_toArray, List.set_cons_zero, List.set_cons_succ]
  refine quiet_load_row rfl 24 (.tmp 3) rfl ((b2 + 1)) rfl _ ((us dTwo.1)) (0, 0) _ (fun W hW => hW.1.two) Tryd.underlying24 rfl (by rw [S2.out]; kernel_rfl) ?_
  simp only [Act.put, List.setIfInBounds_toArray, List.set_cons_zero, List.set_cons_succ]
  (refine quiet_at rfl ⟨.bool false, fun W hW => ?_, ?_⟩)
  · go_simp; exact (check_c (publicE dOne) dTwo none 0 0 [] _ hW.1.pla ⟨Nat.le_refl _, by simp [maxLen], rfl, fun h => absurd h (by omega)⟩).mono (fun e w' h => ⟨by rw [h.1, check_nil], hW.1.grow h.2, hW.2.tr h.2⟩)
  simp only [Act.put, List.setIfInBounds_toArray, List.set_cons_zero, List.set_cons_succ]
  (refine quiet_ex rfl ?_; apply Exists.intro; refine ⟨fun W hW => ?_, ?_⟩)
  · go_simp; try with_reducible rfl
  simp only [Act.put, List.setIfInBounds_toArray, List.set_cons_zero, List.set_cons_succ]
  (refine quiet_ex rfl ?_; apply Exists.intro; refine ⟨fun W hW => ?_, ?_⟩)
  · go_simp; try with_reducible rfl
  simp only [Act.put, List.setIfInBounds_toArray, List.set_cons_zero, List.set_cons_succ]
  (refine quiet_ex rfl ?_; apply Exists.intro; refine ⟨fun W hW => ?_, ?_⟩)
  · go_simp; try with_reducible rfl
  simp only [Act.put, List.setIfInBounds_toArray, List.set_cons_zero]
  refine wpQuiet_nil ?_
  intro w4 h4
  have G4 := Lib.hid h4.2
  clear h4
  go_wp2
  go_ret
  exact ⟨rfl, G4.out⟩
end Go.Proofs.YteiimkglmiadbabDoor
