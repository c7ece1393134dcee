/- store.find and seedcornref42.Find answer findE. -/
import Derived.Test.YtamllmoakgnjoaaDoorFind
namespace Go.Proofs.YtamllmoakgnjoaaDoor
open Go.RowKit
structure FiAt (w0 w : World) (A : Option Addr) (n c : Nat) (ss : List ByteArray) (d : D) : Prop where
  st : StAt w0 w A n c ss
  dg : Blk w (w0.heap.size + 1) 27 (us d.1)
theorem FiAt.grow {w0 w w' : World} {A : Option Addr} {n c : Nat} {ss : List ByteArray} {d : D} (h : FiAt w0 w A n c ss d) (hg : Grow w w') : FiAt w0 w' A n c ss d := ⟨h.st.grow hg, h.dg.grow hg⟩
theorem FiAt.new {w : World} {A : Option Addr} {n c : Nat} {ss : List ByteArray} {d : D} (hs : SlS w A n c ss) (hP : Places w) : FiAt w ((w.alloc (.cells #[.slice A n c] TSt)).alloc (.cells (us d.1) 27)) A n c ss d :=
  ⟨(StAt.new hs hP).grow ((Grow.refl _).alloc (Nat.le_refl _) _), Blk.new1 _ _ _ _⟩
set_option maxRecDepth 100000 in
set_option maxHeartbeats 2000000 in
theorem ixf_c (d : D) (b : Nat) (A : Option Addr) (n c : Nat) (ss : List ByteArray) (w : World) (hn : n ≤ 1000000) (hsm : small ss) (hP : Places w) (hb : Blk w b 27 (us d.1)) (hs : SlS w A n c ss) :
    Calls Tryd.prog 89 #[.slice A n c, .func (.func 90) #[] #[.pointer (some ⟨b, 0, none⟩)]] w fun e w' => e = .returned (.int .i64 (findE ss d)) ∧ Grow w w' := by
  have HP := Lib.hid hP
  have HB := Lib.hid hb
  have HS := Lib.hid hs
  have HL := Lib.hid hs.2.2.1
  have HZ := Lib.hid hsm
  clear hP hb hs hsm
  go_enter Tryd.func89, Tryd.ntmps89
  go_wp2_with fail
  go_loopw [8] (fun i wr => ∃ j : Nat, j ≤ n ∧ i = .int .i64 j ∧ (∀ q, q < j → digE (ss.getD q ByteArray.empty) ≠ d) ∧ Grow w wr) (fun i _ => n - (intOf i).toNat)
  case atStart => exact ⟨0, by omega, rfl, fun q h => by omega, Grow.refl _⟩
  case round =>
    obtain ⟨j, hj, rfl, hE, hM⟩ := hrel
    have HE := Lib.hid hE
    have HM := Lib.hid hM
    clear hE hM
    by_cases hlt : j < n
    · have t1 : decide (j < n) = true := by simpa using hlt
      have t1' : decide ((j : Int) < (n : Int)) = true := by simpa using hlt
      have b1 : (0 : Int) ≤ j := by omega
      have b2 : (j : Int) < n := by omega
      obtain ⟨g, o, rfl, -, -⟩ := HS.out.2.2.2 (by omega)
      have hcc := Lib.hid HS.out.1
      have hcell := (HS.out.grow HM.out).at j hlt
      have Hat := Lib.hid (fun h => findE_at (ss := ss) (d := d) (j := j) (by rw [HL.out]; exact hlt) HE.out h)
      have Hsn := Lib.hid (fun (h : digE (ss.getD j ByteArray.empty) ≠ d) q (hq : q < j + 1) => (show digE (ss.getD q ByteArray.empty) ≠ d by
        by_cases e : q = j
        · rw [e]; exact h
        · exact HE.out q (by omega)))
      have hzz := HZ.out.at j (by rw [HL.out]; exact hlt)
      generalize ss.getD j ByteArray.empty = s at *
      have m1 := Lib.hid (fun W hp hb => fd1_c d b s W hzz hp hb)
      go_wp2_with fail
      refine (m1.out _ (HP.out.grow HM.out) (HB.out.grow HM.out)).mono ?_
      rintro e w3 ⟨rfl, hg3⟩
      have G3 := Lib.hid (HM.out.tr hg3)
      clear hg3 hcell m1
      by_cases hx : digE s = d
      · rw [decide_eq_true hx]
        have Hf := Lib.hid (Hat.out hx)
        clear hx
        go_wp2_with fail
        go_ret
        exact ⟨by rw [Hf.out]; rfl, G3.out⟩
      · rw [decide_eq_false hx]
        have Hf := Lib.hid (Hsn.out hx)
        clear hx
        go_wp2_with fail
        go_roundw
        case rel => exact ⟨j + 1, by omega, by go_num, Hf.out, G3.out⟩
        case measure => simp [intOf]; omega
    · have e : j = n := by omega
      subst e
      have t1 : decide ((j : Int) < (j : Int)) = false := by simp
      have Hf := Lib.hid (findE_no (ss := ss) (d := d) (fun q hq => HE.out q (by rw [HL.out] at hq; exact hq)))
      go_wp2_with fail
      go_ret
      exact ⟨by rw [Hf.out]; rfl, HM.out⟩
set_option maxHeartbeats 2000000 in
theorem find_c (d : D) (A : Option Addr) (n c : Nat) (ss : List ByteArray) (w : World) (hn : n ≤ 1000000) (hsm : small ss) (hP : Places w) (hs : SlS w A n c ss) :
    Calls Tryd.prog 69 #[.agg #[.slice A n c], .agg (us d.1)] w fun e w' => e = .returned (.int .i64 (findE ss d)) ∧ Grow w w' := by
  have hmf : ∀ (fn : Fn) (first cap : Array Value) (w : World), (Instr.makeFunc fn first cap).run Tryd.prog w = .ok (.func fn first cap) w := fun _ _ _ _ => rfl
  have H0 := Lib.hid (FiAt.new (d := d) hs hP)
  have HM := Lib.hid hsm
  clear hP hs hsm
  go_enter Tryd.func69, Tryd.ntmps69
  go_upto_region 1 with (fail)
  refine wp_gen (fun W => FiAt w W A n c ss d) H0.out ?_
  clear H0
  intro w1 h1
  have hcell := h1.st.box.cell 0
  have H1 := Lib.hid h1
  clear h1
  go_wp2_with fail
  refine (ixf_c d (w.heap.size + 1) A n c ss _ hn HM.out H1.out.st.pla H1.out.dg H1.out.st.sl).mono ?_
  rintro e w2 ⟨rfl, hg2⟩
  have H2 := Lib.hid (H1.out.st.gro.tr hg2)
  clear hg2
  go_wp2_with fail
  go_ret
  exact ⟨rfl, H2.out⟩
set_option maxRecDepth 100000 in
set_option maxHeartbeats 2000000 in
theorem rfind_c (d : D) (A : Option Addr) (n c : Nat) (ss : List ByteArray) (w : World) (hn : n ≤ 1000000) (hsm : small ss) (hP : Places w) (hs : SlS w A n c ss) :
    Calls Tryd.prog 70 #[.agg #[.slice A n c], .agg (us d.1)] w fun e w' => e = .returned (.int .i64 (findE ss d)) ∧ Grow w w' := by
  have H0 := Lib.hid (FiAt.new (d := d) hs hP)
  have HZ := Lib.hid hsm
  have HL := Lib.hid hs.2.2.1
  clear hP hs hsm
  go_enter Tryd.func70, Tryd.ntmps70
  go_upto_region 1 with (fail)
  refine wp_gen (fun W => FiAt w W A n c ss d) H0.out ?_
  clear H0
  intro w1 h1
  have H1 := Lib.hid h1
  clear h1
  go_wp2_with fail
  go_loopw [5] (fun i wr => ∃ j : Nat, j ≤ n ∧ i = .int .i64 j ∧ (∀ q, q < j → digE (ss.getD q ByteArray.empty) ≠ d) ∧ FiAt w wr A n c ss d) (fun i _ => n - (intOf i).toNat)
  case atStart => exact ⟨0, by omega, rfl, fun q h => by omega, H1.out⟩
  case round =>
    clear H1
    obtain ⟨j, hj, rfl, hE, hM⟩ := hrel
    have HE := Lib.hid hE
    have HM := Lib.hid hM
    have hcell := hM.st.box.cell 0
    clear hE hM
    have sd := d.sz
    by_cases hlt : j < n
    · have t1 : decide (j < n) = true := by simpa using hlt
      have t1' : decide ((j : Int) < (n : Int)) = true := by simpa using hlt
      have b1 : (0 : Int) ≤ j := by omega
      have b2 : (j : Int) < n := by omega
      obtain ⟨g, o, rfl, -, -⟩ := HM.out.st.sl.2.2.2 (by omega)
      have hcc := Lib.hid HM.out.st.sl.1
      have Hat := Lib.hid (fun h => findE_at (ss := ss) (d := d) (j := j) (by rw [HL.out]; exact hlt) HE.out h)
      have Hsn := Lib.hid (fun (h : digE (ss.getD j ByteArray.empty) ≠ d) q (hq : q < j + 1) => (show digE (ss.getD q ByteArray.empty) ≠ d by
        by_cases e : q = j
        · rw [e]; exact h
        · exact HE.out q (by omega)))
      have hzz := HZ.out.at j (by rw [HL.out]; exact hlt)
      have fc := Lib.hid (fun W (hW : FiAt w W (some ⟨g, o, none⟩) n c ss d) => hW.st.sl.at j hlt)
      generalize ss.getD j ByteArray.empty = s at *
      have m1 := Lib.hid (fun W => rof_s s W hzz)
      generalize digE s = x at *
      obtain ⟨bb, hbb⟩ : ∃ bb, bb = decide (x = d) := ⟨_, rfl⟩
      have Hbb := Lib.hid hbb
      clear hbb
      go_upto_region 4 with (fail)
      refine wp_region_all (fun W => FiAt w W (some ⟨g, o, none⟩) n c ss d) (by kernel_rfl) (by kernel_rfl) (HM.out.grow (Grow.refl _).drew) ?_
      clear hcell
      (refine quiet_ex rfl ?_; apply Exists.intro; refine ⟨fun W hW => ?_, ?_⟩)
      · go_simp; try with_reducible rfl
      simp only [Act.put, List.setIfInBounds_toArray, List.set_cons_zero, List.set_cons_succ]
      (refine quiet_ex rfl ?_; apply Exists.intro; refine ⟨fun W hW => ?_, ?_⟩)
      · have c := hW.st.box.cell 0; go_simp; try with_reducible rfl
      simp only [Act.put, List.setIfInBounds_toArray, List.set_cons_zero, List.set_cons_succ]
      (refine quiet_ex rfl ?_; apply Exists.intro; refine ⟨fun W hW => ?_, ?_⟩)
      · go_simp; try with_reducible rfl
      simp only [Act.put, List.setIfInBounds_toArray, List.set_cons_zero, List.set_cons_succ]
      (refine quiet_ex rfl ?_; apply Exists.intro; refine ⟨fun W hW => ?_, ?_⟩)
      · go_simp; try with_reducible rfl
      simp only [Act.put, List.setIfInBounds_toArray, List.set_cons_zero, List.set_cons_succ]
      (refine quiet_ex rfl ?_; apply Exists.intro; refine ⟨fun W hW => ?_, ?_⟩)
      · have c := fc.out W hW; go_simp; try with_reducible rfl
      simp only [Act.put, List.setIfInBounds_toArray, List.set_cons_zero, List.set_cons_succ]
      (refine quiet_at rfl ⟨.agg (us x.1), fun W hW => ?_, ?_⟩)
      · go_simp; exact (m1.out _).mono (fun e w' h => ⟨h.1, hW.grow h.2⟩)
      simp only [Act.put, List.setIfInBounds_toArray, List.set_cons_zero, List.set_cons_succ]
      refine quiet_load_row rfl 27 (.tmp 3) rfl (w.heap.size + 1) rfl _ (us d.1) (0, 0) _ (fun W hW => hW.dg) Tryd.underlying27 rfl (by rw [sd]; kernel_rfl) ?_
      simp only [Act.put, List.setIfInBounds_toArray, List.set_cons_zero, List.set_cons_succ]
      (refine quiet_ex rfl ?_; apply Exists.intro; refine ⟨fun W hW => ?_, ?_⟩)
      · have c := eqin_D x d W; rw [← Hbb.out] at c; go_simp; try with_reducible rfl
      simp only [Act.put, List.setIfInBounds_toArray, List.set_cons_zero, List.set_cons_succ]
      refine wpQuiet_nil ?_
      intro w4 h4
      have H4 := Lib.hid h4
      clear h4
      cases bb
      · have Hf := Lib.hid (Hsn.out (of_decide_eq_false Hbb.out.symm))
        go_wp2_with fail
        go_roundw
        case rel => exact ⟨j + 1, by omega, by go_num, Hf.out, H4.out⟩
        case measure => simp [intOf]; omega
      · have Hf := Lib.hid (Hat.out (of_decide_eq_true Hbb.out.symm))
        go_wp2_with fail
        go_ret
        exact ⟨by rw [Hf.out]; rfl, H4.out.st.gro⟩
    · have e : j = n := by omega
      subst e
      have t1 : decide ((j : Int) < (j : Int)) = false := by simp
      have Hf := Lib.hid (findE_no (ss := ss) (d := d) (fun q hq => HE.out q (by rw [HL.out] at hq; exact hq)))
      go_wp2_with fail
      go_ret
      exact ⟨by rw [Hf.out]; rfl, HM.out.st.gro⟩
end Go.Proofs.YtamllmoakgnjoaaDoor
