/- seedcornref04.Same: the same lists of digests? -/
import Derived.Test.YtamllmoakgnjoaaDoorRoot
namespace Go.Proofs.YtamllmoakgnjoaaDoor
open Go.RowKit
theorem D_lists_eq {l l' : List D} (h : l.length = l'.length) (hj : ∀ j, j < l.length → l.getD j D.zero = l'.getD j D.zero) : l = l' := by
  apply List.ext_getElem h
  intro j h1 h2
  have := hj j h1
  simpa [List.getD, h1, h2] using this
set_option maxRecDepth 100000 in
set_option maxHeartbeats 1000000 in
theorem same_c (A B : Option Addr) (n c m c' : Nat) (l l' : List D) (w : World) (hn : n ≤ 1000000) (ha : SlD w A n c l) (hb : SlD w B m c' l') :
    Calls Tryd.prog 44 #[.slice A n c, .slice B m c'] w fun e w' => e = .returned (.bool (decide (l = l'))) ∧ Grow w w' := by
  have HA := Lib.hid ha
  have HB := Lib.hid hb
  clear ha hb
  by_cases hnm : n = m
  · subst hnm
    have t1 : ((n : Int) != (n : Int)) = false := by simp
    go_enter Tryd.func44, Tryd.ntmps44
    go_wp2_with fail
    go_loopw [5] (fun i wr => ∃ j : Nat, j ≤ n ∧ i = .int .i64 j ∧ (∀ q, q < j → l.getD q D.zero = l'.getD q D.zero) ∧ Grow w wr) (fun i _ => n - (intOf i).toNat)
    case atStart => exact ⟨0, by omega, rfl, fun q hq => by omega, Grow.refl _⟩
    case round =>
      obtain ⟨j, hj, rfl, hE, hN⟩ := hrel
      have HN := Lib.hid hN
      have HE := Lib.hid hE
      clear hN hE
      by_cases hlt : j < n
      · have t3 : decide ((j : Int) < (n : Int)) = true := by simp; omega
        have b1 : (0 : Int) ≤ j := by omega
        have b2 : (j : Int) < n := by omega
        obtain ⟨g, o, rfl, hgl, hgc⟩ := HA.out.2.2.2 (by omega)
        obtain ⟨g', o', rfl, hgl', hgc'⟩ := HB.out.2.2.2 (by omega)
        have ca := Lib.hid HA.out.1
        have cb := Lib.hid HB.out.1
        have fa := Lib.hid (fun W (hW : Grow w W) k (hk : k < 4) => (hW.cell (p := ⟨g, o + j * 4 + k, none⟩) hgl).trans (hgc j k hlt hk))
        have fb := Lib.hid (fun W (hW : Grow w W) k (hk : k < 4) => (hW.cell (p := ⟨g', o' + j * 4 + k, none⟩) hgl').trans (hgc' j k hlt hk))
        have Hsn := Lib.hid (fun (h : l.getD j D.zero = l'.getD j D.zero) q (hq : q < j + 1) => (show l.getD q D.zero = l'.getD q D.zero by
          by_cases e : q = j
          · rw [e]; exact h
          · exact HE.out q (by omega)))
        have Hno := Lib.hid (fun (h : ¬ l.getD j D.zero = l'.getD j D.zero) => (show ¬ l = l' from fun e => h (by rw [e])))
        clear hgl hgl' hgc hgc' HE
        generalize hx : l.getD j D.zero = x at *
        generalize hy : l'.getD j D.zero = y at *
        clear hx hy
        obtain ⟨bb, hbb⟩ : ∃ bb, bb = decide (x = y) := ⟨_, rfl⟩
        have Hbb := Lib.hid hbb
        clear hbb
        go_upto_region 6 with (fail)
        refine wp_region_all (fun W => Grow w W) (by kernel_rfl) (by kernel_rfl) HN.out.drew ?_
        (refine quiet_ex rfl ?_; apply Exists.intro; refine ⟨fun W hW => ?_, ?_⟩)
        · go_simp; try with_reducible rfl
        simp only [Act.put, List.setIfInBounds_toArray, List.set_cons_zero, List.set_cons_succ]
        (refine quiet_ex rfl ?_; apply Exists.intro; refine ⟨fun W hW => ?_, ?_⟩)
        · go_simp; try with_reducible rfl
        simp only [Act.put, List.setIfInBounds_toArray, List.set_cons_zero, List.set_cons_succ]
        (refine quiet_ex rfl ?_; apply Exists.intro; refine ⟨fun W hW => ?_, ?_⟩)
        · go_simp; try with_reducible rfl
        simp only [Act.put, List.setIfInBounds_toArray, List.set_cons_zero, List.set_cons_succ]
        refine quiet_load_D rfl 27 (.tmp 19) rfl g (o + j * 4) rfl x (fun W hW => fa.out W hW) _ Tryd.underlying27 hi_D ?_
        simp only [Act.put, List.setIfInBounds_toArray, List.set_cons_zero, List.set_cons_succ]
        (refine quiet_ex rfl ?_; apply Exists.intro; refine ⟨fun W hW => ?_, ?_⟩)
        · go_simp; try with_reducible rfl
        simp only [Act.put, List.setIfInBounds_toArray, List.set_cons_zero, List.set_cons_succ]
        (refine quiet_ex rfl ?_; apply Exists.intro; refine ⟨fun W hW => ?_, ?_⟩)
        · go_simp; try with_reducible rfl
        simp only [Act.put, List.setIfInBounds_toArray, List.set_cons_zero, List.set_cons_succ]
        (refine quiet_ex rfl ?_; apply Exists.intro; refine ⟨fun W hW => ?_, ?_⟩)
        · go_simp; try with_reducible rfl
        simp only [Act.put, List.setIfInBounds_toArray, List.set_cons_zero, List.set_cons_succ]
        refine quiet_load_D rfl 27 (.tmp 23) rfl g' (o' + j * 4) rfl y (fun W hW => fb.out W hW) _ Tryd.underlying27 hi_D ?_
        simp only [Act.put, List.setIfInBounds_toArray, List.set_cons_zero, List.set_cons_succ]
        (refine quiet_ex rfl ?_; apply Exists.intro; refine ⟨fun W hW => ?_, ?_⟩)
        · have c := eqin_D x y W; rw [← Hbb.out] at c; go_simp; try with_reducible rfl
        simp only [Act.put, List.setIfInBounds_toArray, List.set_cons_zero, List.set_cons_succ]
        refine wpQuiet_nil ?_
        intro w5 h5
        have H5 := Lib.hid h5
        clear h5
        cases bb
        · have hne := Hno.out (of_decide_eq_false Hbb.out.symm)
          have hde : decide (l = l') = false := decide_eq_false hne
          have Hde := Lib.hid hde
          clear hne hde
          go_wp2_with fail
          go_ret
          exact ⟨by rw [Hde.out]; rfl, H5.out⟩
        · go_wp2_with fail
          go_roundw
          case rel => exact ⟨j + 1, by omega, by go_num, Hsn.out (of_decide_eq_true Hbb.out.symm), H5.out⟩
          case measure => simp [intOf]; omega
      · have e : j = n := by omega
        subst e
        have hde : decide (l = l') = true := decide_eq_true (D_lists_eq (by rw [HA.out.2.2.1, HB.out.2.2.1]) (fun q hq => HE.out q (by rw [HA.out.2.2.1] at hq; exact hq)))
        have Hde := Lib.hid hde
        clear hde
        go_wp2_with fail
        go_ret
        exact ⟨by rw [Hde.out]; rfl, HN.out⟩
  · have t1 : ((n : Int) != (m : Int)) = true := by simp; omega
    have hde : decide (l = l') = false := decide_eq_false (fun e => hnm (by rw [← HA.out.2.2.1, ← HB.out.2.2.1, e]))
    rw [hde]
    clear hde
    go_enter Tryd.func44, Tryd.ntmps44
    go_wp2_with fail
    go_ret
    exact ⟨rfl, Grow.refl _⟩
end Go.Proofs.YtamllmoakgnjoaaDoor
