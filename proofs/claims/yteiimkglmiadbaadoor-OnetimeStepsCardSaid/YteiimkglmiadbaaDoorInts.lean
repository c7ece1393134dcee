/- seedcornlaw05.ints of two rows with the same numbers: true. -/
import Derived.Test.YteiimkglmiadbaaDoorRSteps
namespace Go.Proofs.YteiimkglmiadbaaDoor
open Go.RowKit
structure IntsAt (w0 w : World) (n ga ca gb cb : Nat) (l : List Nat) : Prop where
  sa : w.ownsRow 0 3 1 (.slice (some ⟨ga, 0, none⟩) n ca) n (ints l)
  sb : w.ownsRow 0 3 1 (.slice (some ⟨gb, 0, none⟩) n cb) n (ints l)
  gro : Grow w0 w
theorem IntsAt.grow {w0 w w' : World} {n ga ca gb cb : Nat} {l : List Nat} (h : IntsAt w0 w n ga ca gb cb l) (hg : Grow w w') : IntsAt w0 w' n ga ca gb cb l :=
  ⟨ownsRow_grow h.sa hg, ownsRow_grow h.sb hg, h.gro.tr hg⟩
set_option maxHeartbeats 1000000 in
theorem ints_c (n ga ca gb cb : Nat) (l : List Nat) (hn : 0 < n) (hm : n < 4611686018427387904) (w : World) (ha : w.ownsRow 0 3 1 (.slice (some ⟨ga, 0, none⟩) n ca) n (ints l)) (hb : w.ownsRow 0 3 1 (.slice (some ⟨gb, 0, none⟩) n cb) n (ints l)) :
    Calls Tryd.prog 10 #[.slice (some ⟨ga, 0, none⟩) n ca, .slice (some ⟨gb, 0, none⟩) n cb] w fun e w' => e = .returned (.bool true) ∧ Grow w w' := by
  have H0 := Lib.hid (IntsAt.mk ha hb (Grow.refl w))
  clear ha hb
  go_enter Tryd.func10, Tryd.ntmps10
  go_wp2_with fail
  go_loopw [5] (fun i wr => ∃ j : Nat, j ≤ n ∧ i = .int .i64 j ∧ IntsAt w wr n ga ca gb cb l) (fun i _ => n - (intOf i).toNat)
  case atStart => exact ⟨0, by omega, rfl, H0.out⟩
  case round =>
    obtain ⟨j, hj, rfl, hN⟩ := hrel
    have HN := Lib.hid hN
    clear hN H0
    by_cases hlt : j < n
    · have fa := Lib.hid (fun W (hW : IntsAt w W n ga ca gb cb l) => own_ints_lit hW.sa hn W (Grow.refl _) j hlt)
      have fb := Lib.hid (fun W (hW : IntsAt w W n ga ca gb cb l) => own_ints_lit hW.sb hn W (Grow.refl _) j hlt)
      generalize l.getD j 0 = x at *
      have t3 : decide ((j : Int) < (n : Int)) = true := by simp; omega
      have b1 : (0 : Int) ≤ j := by omega
      have b2 : (j : Int) < n := by omega
      go_upto_region 6 with (fail)
      refine wp_region_all (fun W => IntsAt w W n ga ca gb cb l) (by kernel_rfl) (by kernel_rfl) (HN.out.grow (Grow.refl _).drew) ?_
      (refine quiet_ex rfl ?_; apply Exists.intro; refine ⟨fun W hW => ?_, ?_⟩)
      · go_simp; try with_reducible rfl
      simp only [Act.put, List.setIfInBounds_toArray, List.set_cons_zero, List.set_cons_succ]
      (refine quiet_ex rfl ?_; apply Exists.intro; refine ⟨fun W hW => ?_, ?_⟩)
      · go_simp; try with_reducible rfl
      simp only [Act.put, List.setIfInBounds_toArray, List.set_cons_zero, List.set_cons_succ]
      (refine quiet_ex rfl ?_; apply Exists.intro; refine ⟨fun W hW => ?_, ?_⟩)
      · have c := fa.out W hW; go_simp; try with_reducible rfl
      simp only [Act.put, List.setIfInBounds_toArray, List.set_cons_zero, List.set_cons_succ]
      (refine quiet_ex rfl ?_; apply Exists.intro; refine ⟨fun W hW => ?_, ?_⟩)
      · have c := fa.out W hW; go_simp; try with_reducible rfl
      simp only [Act.put, List.setIfInBounds_toArray, List.set_cons_zero, List.set_cons_succ]
      (refine quiet_ex rfl ?_; apply Exists.intro; refine ⟨fun W hW => ?_, ?_⟩)
      · go_simp; try with_reducible rfl
      simp only [Act.put, List.setIfInBounds_toArray, List.set_cons_zero, List.set_cons_succ]
      (refine quiet_ex rfl ?_; apply Exists.intro; refine ⟨fun W hW => ?_, ?_⟩)
      · go_simp; try with_reducible rfl
      simp only [Act.put, List.setIfInBounds_toArray, List.set_cons_zero, List.set_cons_succ]
      (refine quiet_ex rfl ?_; apply Exists.intro; refine ⟨fun W hW => ?_, ?_⟩)
      · have c := fb.out W hW; go_simp; try with_reducible rfl
      simp only [Act.put, List.setIfInBounds_toArray, List.set_cons_zero, List.set_cons_succ]
      (refine quiet_ex rfl ?_; apply Exists.intro; refine ⟨fun W hW => ?_, ?_⟩)
      · have c := fb.out W hW; go_simp; try with_reducible rfl
      simp only [Act.put, List.setIfInBounds_toArray, List.set_cons_zero, List.set_cons_succ]
      (refine quiet_ex rfl ?_; apply Exists.intro; refine ⟨fun W hW => ?_, ?_⟩)
      · go_simp; try with_reducible rfl
      simp only [Act.put, List.setIfInBounds_toArray, List.set_cons_zero, List.set_cons_succ]
      refine wpQuiet_nil ?_
      intro w5 h5
      go_wp2_with fail
      go_roundw
      case rel => exact ⟨j + 1, by omega, by go_num, h5⟩
      case measure => simp [intOf]; omega
    · have e : j = n := by omega
      subst e
      go_wp2_with fail
      go_ret
      exact ⟨rfl, HN.out.gro⟩
end Go.Proofs.YteiimkglmiadbaaDoor
