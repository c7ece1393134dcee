import Derived.Test.YtamllmoakgnjoaaDoorSt
import Derived.Test.YtamllmoakgnjoaaDoorStrs
import Derived.Test.YtamllmoakgnjoaaDoorMore
import Derived.Test.YtamllmoakgnjoaaDoorSt2
/- store.find and seedcornref42.Find: the place of the first item of a digest, or -1. -/
namespace Go.Proofs.YtamllmoakgnjoaaDoor
open Go.RowKit
def findE (ss : List ByteArray) (d : D) : Int := match ss.findIdx? (fun s => decide (digE s = d)) with | some j => (j : Int) | none => -1
theorem findE_at {ss : List ByteArray} {d : D} {j : Nat} (hj : j < ss.length) (hb : ∀ q, q < j → digE (ss.getD q ByteArray.empty) ≠ d) (h : digE (ss.getD j ByteArray.empty) = d) : findE ss d = (j : Int) := by
  have : ss.findIdx? (fun s => decide (digE s = d)) = some j := by
    rw [List.findIdx?_eq_some_iff_getElem]
    refine ⟨hj, ?_, fun q hq => ?_⟩
    · rw [List.getD_eq_getElem?_getD, List.getElem?_eq_getElem hj] at h
      simpa using h
    · have := hb q hq
      rw [List.getD_eq_getElem?_getD, List.getElem?_eq_getElem (by omega)] at this
      simpa using this
  unfold findE
  rw [this]
theorem findE_no {ss : List ByteArray} {d : D} (hb : ∀ q, q < ss.length → digE (ss.getD q ByteArray.empty) ≠ d) : findE ss d = -1 := by
  have : ss.findIdx? (fun s => decide (digE s = d)) = none := by
    rw [List.findIdx?_eq_none_iff]
    intro s hs
    obtain ⟨q, hq, rfl⟩ := List.getElem_of_mem hs
    have := hb q hq
    rw [List.getD_eq_getElem?_getD, List.getElem?_eq_getElem hq] at this
    simpa using this
  unfold findE
  rw [this]
theorem findE_cases (ss : List ByteArray) (d : D) : findE ss d = -1 ∨ ∃ j : Nat, j < ss.length ∧ findE ss d = (j : Int) := by
  unfold findE
  cases h : ss.findIdx? (fun s => decide (digE s = d)) with
  | none => exact .inl rfl
  | some j =>
    rw [List.findIdx?_eq_some_iff_getElem] at h
    obtain ⟨hj, -⟩ := h
    exact .inr ⟨j, hj, rfl⟩
set_option maxHeartbeats 1000000 in
theorem fd1_c (d : D) (b : Nat) (s : ByteArray) (w : World) (hm : s.size ≤ 1000000) (hP : Places w) (hb : Blk w b 27 (us d.1)) :
    Calls Tryd.prog 90 #[.string s, .pointer (some ⟨b, 0, none⟩)] w fun e w' => e = .returned (.bool (decide (digE s = d))) ∧ Grow w w' := by
  have HP := Lib.hid hP
  have HB := Lib.hid hb
  have sd := d.sz
  have m1 := Lib.hid (fun W (hp : Places W) => of_s s W hm hp)
  generalize digE s = x at *
  obtain ⟨bb, hbb⟩ : ∃ bb, bb = decide (x = d) := ⟨_, rfl⟩
  have Hbb := Lib.hid hbb
  rw [← hbb]
  clear hP hb hbb
  go_enter Tryd.func90, Tryd.ntmps90
  go_upto_region 1 with (fail)
  refine wp_region_all (fun W => Grow w W) (by kernel_rfl) (by kernel_rfl) (Grow.refl _).drew ?_
  (refine quiet_ex rfl ?_; apply Exists.intro; refine ⟨fun W hW => ?_, ?_⟩)
  · go_simp; try with_reducible rfl
  simp only [Act.put, List.setIfInBounds_toArray, List.set_cons_zero, List.set_cons_succ]
  (refine quiet_at rfl ⟨.agg (us x.1), fun W hW => ?_, ?_⟩)
  · go_simp; exact (m1.out _ (HP.out.grow hW)).mono (fun e w' h => ⟨h.1, hW.tr h.2⟩)
  simp only [Act.put, List.setIfInBounds_toArray, List.set_cons_zero, List.set_cons_succ]
  refine quiet_load_row rfl 27 (.tmp 1) rfl (b) rfl _ (us d.1) (0, 0) _ (fun W hW => HB.out.grow hW) Tryd.underlying27 rfl (by rw [sd]; kernel_rfl) ?_
  simp only [Act.put, List.setIfInBounds_toArray, List.set_cons_zero, List.set_cons_succ]
  (refine quiet_ex rfl ?_; apply Exists.intro; refine ⟨fun W hW => ?_, ?_⟩)
  · have c := eqin_D x d W; rw [← Hbb.out] at c; go_simp; try with_reducible rfl
  simp only [Act.put, List.setIfInBounds_toArray, List.set_cons_zero, List.set_cons_succ]
  (refine quiet_ex rfl ?_; apply Exists.intro; refine ⟨fun W hW => ?_, ?_⟩)
  · go_simp; try with_reducible rfl
  simp only [Act.put, List.setIfInBounds_toArray, List.set_cons_zero, List.set_cons_succ]
  refine wpQuiet_nil ?_
  intro w4 h4
  have H4 := Lib.hid h4
  clear h4
  go_wp2
  go_ret
  exact ⟨rfl, H4.out⟩
end Go.Proofs.YtamllmoakgnjoaaDoor
/- store.find and seedcornref42.Find answer findE. -/
namespace Go.Proofs.YtamllmoakgnjoaaDoor
open Go.RowKit
structure FiAt (w0 w : World) (A : Option Addr) (n c : Nat) (ss : List ByteArray) (d : D) : Prop where
  st : StAt w0 w A n c ss
  dg : Blk w (w0.heap.size + 1) 27 (us d.1)
theorem FiAt.grow {w0 w w' : World} {A : Option Addr} {n c : Nat} {ss : List ByteArray} {d : D} (h : FiAt w0 w A n c ss d) (hg : Grow w w') : FiAt w0 w' A n c ss d := ⟨h.st.grow hg, h.dg.grow hg⟩
theorem FiAt.new {w : World} {A : Option Addr} {n c : Nat} {ss : List ByteArray} {d : D} (hs : SlS w A n c ss) (hP : Places w) : FiAt w ((w.alloc (.cells #[.slice A n c] TSt)).alloc (.cells (us d.1) 27)) A n c ss d :=
  ⟨(StAt.new hs hP).grow ((Grow.refl _).alloc (Nat.le_refl _) _), Blk.new1 _ _ _ _⟩
set_option maxRecDepth 100000 in
set_option maxHeartbeats 2000000 in
theorem ixf_c (d : D) (b : Nat) (A : Option Addr) (n c : Nat) (ss : List ByteArray) (w : World) (hn : n ≤ 1000000) (hsm : small ss) (hP : Places w) (hb : Blk w b 27 (us d.1)) (hs : SlS w A n c ss) :
    Calls Tryd.prog 89 #[.slice A n c, .func (.func 90) #[] #[.pointer (some ⟨b, 0, none⟩)]] w fun e w' => e = .returned (.int .i64 (findE ss d)) ∧ Grow w w' := by
  have HP := Lib.hid hP
  have HB := Lib.hid hb
  have HS := Lib.hid hs
  have HL := Lib.hid hs.2.2.1
  have HZ := Lib.hid hsm
  clear hP hb hs hsm
  go_enter Tryd.func89, Tryd.ntmps89
  go_wp2_with fail
  go_loopw [8] (fun i wr => ∃ j : Nat, j ≤ n ∧ i = .int .i64 j ∧ (∀ q, q < j → digE (ss.getD q ByteArray.empty) ≠ d) ∧ Grow w wr) (fun i _ => n - (intOf i).toNat)
  case atStart => exact ⟨0, by omega, rfl, fun q h => by omega, Grow.refl _⟩
  case round =>
    obtain ⟨j, hj, rfl, hE, hM⟩ := hrel
    have HE := Lib.hid hE
    have HM := Lib.hid hM
    clear hE hM
    by_cases hlt : j < n
    · have t1 : decide (j < n) = true := by simpa using hlt
      have t1' : decide ((j : Int) < (n : Int)) = true := by simpa using hlt
      have b1 : (0 : Int) ≤ j := by omega
      have b2 : (j : Int) < n := by omega
      obtain ⟨g, o, rfl, -, -⟩ := HS.out.2.2.2 (by omega)
      have hcc := Lib.hid HS.out.1
      have hcell := (HS.out.grow HM.out).at j hlt
      have Hat := Lib.hid (fun h => findE_at (ss := ss) (d := d) (j := j) (by rw [HL.out]; exact hlt) HE.out h)
      have Hsn := Lib.hid (fun (h : digE (ss.getD j ByteArray.empty) ≠ d) q (hq : q < j + 1) => (show digE (ss.getD q ByteArray.empty) ≠ d by
        by_cases e : q = j
        · rw [e]; exact h
        · exact HE.out q (by omega)))
      have hzz := HZ.out.at j (by rw [HL.out]; exact hlt)
      generalize ss.getD j ByteArray.empty = s at *
      have m1 := Lib.hid (fun W hp hb => fd1_c d b s W hzz hp hb)
      go_wp2_with fail
      refine (m1.out _ (HP.out.grow HM.out) (HB.out.grow HM.out)).mono ?_
      rintro e w3 ⟨rfl, hg3⟩
      have G3 := Lib.hid (HM.out.tr hg3)
      clear hg3 hcell m1
      by_cases hx : digE s = d
      · rw [decide_eq_true hx]
        have Hf := Lib.hid (Hat.out hx)
        clear hx
        go_wp2_with fail
        go_ret
        exact ⟨by rw [Hf.out]; rfl, G3.out⟩
      · rw [decide_eq_false hx]
        have Hf := Lib.hid (Hsn.out hx)
        clear hx
        go_wp2_with fail
        go_roundw
        case rel => exact ⟨j + 1, by omega, by go_num, Hf.out, G3.out⟩
        case measure => simp [intOf]; omega
    · have e : j = n := by omega
      subst e
      have t1 : decide ((j : Int) < (j : Int)) = false := by simp
      have Hf := Lib.hid (findE_no (ss := ss) (d := d) (fun q hq => HE.out q (by rw [HL.out] at hq; exact hq)))
      go_wp2_with fail
      go_ret
      exact ⟨by rw [Hf.out]; rfl, HM.out⟩
set_option maxHeartbeats 2000000 in
theorem find_c (d : D) (A : Option Addr) (n c : Nat) (ss : List ByteArray) (w : World) (hn : n ≤ 1000000) (hsm : small ss) (hP : Places w) (hs : SlS w A n c ss) :
    Calls Tryd.prog 69 #[.agg #[.slice A n c], .agg (us d.1)] w fun e w' => e = .returned (.int .i64 (findE ss d)) ∧ Grow w w' := by
  have hmf : ∀ (fn : Fn) (first cap : Array Value) (w : World), (Instr.makeFunc fn first cap).run Tryd.prog w = .ok (.func fn first cap) w := fun _ _ _ _ => rfl
  have H0 := Lib.hid (FiAt.new (d := d) hs hP)
  have HM := Lib.hid hsm
  clear hP hs hsm
  go_enter Tryd.func69, Tryd.ntmps69
  go_upto_region 1 with (fail)
  refine wp_gen (fun W => FiAt w W A n c ss d) H0.out ?_
  clear H0
  intro w1 h1
  have hcell := h1.st.box.cell 0
  have H1 := Lib.hid h1
  clear h1
  go_wp2_with fail
  refine (ixf_c d (w.heap.size + 1) A n c ss _ hn HM.out H1.out.st.pla H1.out.dg H1.out.st.sl).mono ?_
  rintro e w2 ⟨rfl, hg2⟩
  have H2 := Lib.hid (H1.out.st.gro.tr hg2)
  clear hg2
  go_wp2_with fail
  go_ret
  exact ⟨rfl, H2.out⟩
set_option maxRecDepth 100000 in
set_option maxHeartbeats 2000000 in
theorem rfind_c (d : D) (A : Option Addr) (n c : Nat) (ss : List ByteArray) (w : World) (hn : n ≤ 1000000) (hsm : small ss) (hP : Places w) (hs : SlS w A n c ss) :
    Calls Tryd.prog 70 #[.agg #[.slice A n c], .agg (us d.1)] w fun e w' => e = .returned (.int .i64 (findE ss d)) ∧ Grow w w' := by
  have H0 := Lib.hid (FiAt.new (d := d) hs hP)
  have HZ := Lib.hid hsm
  have HL := Lib.hid hs.2.2.1
  clear hP hs hsm
  go_enter Tryd.func70, Tryd.ntmps70
  go_upto_region 1 with (fail)
  refine wp_gen (fun W => FiAt w W A n c ss d) H0.out ?_
  clear H0
  intro w1 h1
  have H1 := Lib.hid h1
  clear h1
  go_wp2_with fail
  go_loopw [5] (fun i wr => ∃ j : Nat, j ≤ n ∧ i = .int .i64 j ∧ (∀ q, q < j → digE (ss.getD q ByteArray.empty) ≠ d) ∧ FiAt w wr A n c ss d) (fun i _ => n - (intOf i).toNat)
  case atStart => exact ⟨0, by omega, rfl, fun q h => by omega, H1.out⟩
  case round =>
    clear H1
    obtain ⟨j, hj, rfl, hE, hM⟩ := hrel
    have HE := Lib.hid hE
    have HM := Lib.hid hM
    have hcell := hM.st.box.cell 0
    clear hE hM
    have sd := d.sz
    by_cases hlt : j < n
    · have t1 : decide (j < n) = true := by simpa using hlt
      have t1' : decide ((j : Int) < (n : Int)) = true := by simpa using hlt
      have b1 : (0 : Int) ≤ j := by omega
      have b2 : (j : Int) < n := by omega
      obtain ⟨g, o, rfl, -, -⟩ := HM.out.st.sl.2.2.2 (by omega)
      have hcc := Lib.hid HM.out.st.sl.1
      have Hat := Lib.hid (fun h => findE_at (ss := ss) (d := d) (j := j) (by rw [HL.out]; exact hlt) HE.out h)
      have Hsn := Lib.hid (fun (h : digE (ss.getD j ByteArray.empty) ≠ d) q (hq : q < j + 1) => (show digE (ss.getD q ByteArray.empty) ≠ d by
        by_cases e : q = j
        · rw [e]; exact h
        · exact HE.out q (by omega)))
      have hzz := HZ.out.at j (by rw [HL.out]; exact hlt)
      have fc := Lib.hid (fun W (hW : FiAt w W (some ⟨g, o, none⟩) n c ss d) => hW.st.sl.at j hlt)
      generalize ss.getD j ByteArray.empty = s at *
      have m1 := Lib.hid (fun W => rof_s s W hzz)
      generalize digE s = x at *
      obtain ⟨bb, hbb⟩ : ∃ bb, bb = decide (x = d) := ⟨_, rfl⟩
      have Hbb := Lib.hid hbb
      clear hbb
      go_upto_region 4 with (fail)
      refine wp_region_all (fun W => FiAt w W (some ⟨g, o, none⟩) n c ss d) (by kernel_rfl) (by kernel_rfl) (HM.out.grow (Grow.refl _).drew) ?_
      clear hcell
      (refine quiet_ex rfl ?_; apply Exists.intro; refine ⟨fun W hW => ?_, ?_⟩)
      · go_simp; try with_reducible rfl
      simp only [Act.put, List.setIfInBounds_toArray, List.set_cons_zero, List.set_cons_succ]
      (refine quiet_ex rfl ?_; apply Exists.intro; refine ⟨fun W hW => ?_, ?_⟩)
      · have c := hW.st.box.cell 0; go_simp; try with_reducible rfl
      simp only [Act.put, List.setIfInBounds_toArray, List.set_cons_zero, List.set_cons_succ]
      (refine quiet_ex rfl ?_; apply Exists.intro; refine ⟨fun W hW => ?_, ?_⟩)
      · go_simp; try with_reducible rfl
      simp only [Act.put, List.setIfInBounds_toArray, List.set_cons_zero, List.set_cons_succ]
      (refine quiet_ex rfl ?_; apply Exists.intro; refine ⟨fun W hW => ?_, ?_⟩)
      · go_simp; try with_reducible rfl
      simp only [Act.put, List.setIfInBounds_toArray, List.set_cons_zero, List.set_cons_succ]
      (refine quiet_ex rfl ?_; apply Exists.intro; refine ⟨fun W hW => ?_, ?_⟩)
      · have c := fc.out W hW; go_simp; try with_reducible rfl
      simp only [Act.put, List.setIfInBounds_toArray, List.set_cons_zero, List.set_cons_succ]
      (refine quiet_at rfl ⟨.agg (us x.1), fun W hW => ?_, ?_⟩)
      · go_simp; exact (m1.out _).mono (fun e w' h => ⟨h.1, hW.grow h.2⟩)
      simp only [Act.put, List.setIfInBounds_toArray, List.set_cons_zero, List.set_cons_succ]
      refine quiet_load_row rfl 27 (.tmp 3) rfl (w.heap.size + 1) rfl _ (us d.1) (0, 0) _ (fun W hW => hW.dg) Tryd.underlying27 rfl (by rw [sd]; kernel_rfl) ?_
      simp only [Act.put, List.setIfInBounds_toArray, List.set_cons_zero, List.set_cons_succ]
      (refine quiet_ex rfl ?_; apply Exists.intro; refine ⟨fun W hW => ?_, ?_⟩)
      · have c := eqin_D x d W; rw [← Hbb.out] at c; go_simp; try with_reducible rfl
      simp only [Act.put, List.setIfInBounds_toArray, List.set_cons_zero, List.set_cons_succ]
      refine wpQuiet_nil ?_
      intro w4 h4
      have H4 := Lib.hid h4
      clear h4
      cases bb
      · have Hf := Lib.hid (Hsn.out (of_decide_eq_false Hbb.out.symm))
        go_wp2_with fail
        go_roundw
        case rel => exact ⟨j + 1, by omega, by go_num, Hf.out, H4.out⟩
        case measure => simp [intOf]; omega
      · have Hf := Lib.hid (Hat.out (of_decide_eq_true Hbb.out.symm))
        go_wp2_with fail
        go_ret
        exact ⟨by rw [Hf.out]; rfl, H4.out.st.gro⟩
    · have e : j = n := by omega
      subst e
      have t1 : decide ((j : Int) < (j : Int)) = false := by simp
      have Hf := Lib.hid (findE_no (ss := ss) (d := d) (fun q hq => HE.out q (by rw [HL.out] at hq; exact hq)))
      go_wp2_with fail
      go_ret
      exact ⟨by rw [Hf.out]; rfl, HM.out.st.gro⟩
end Go.Proofs.YtamllmoakgnjoaaDoor
/- store.Get and seedcornref42.Get answer getE. -/
namespace Go.Proofs.YtamllmoakgnjoaaDoor
open Go.RowKit
/-- What is got by a digest: the item, or nothing and the number of the error. -/
def getE (ss : List ByteArray) (d : D) : ByteArray × Int := if findE ss d < 0 then (ByteArray.empty, 6) else (ss.getD (findE ss d).toNat ByteArray.empty, 0)
set_option maxRecDepth 100000 in
set_option maxHeartbeats 2000000 in
theorem get_c (d : D) (A : Option Addr) (n c : Nat) (ss : List ByteArray) (w : World) (hn : n ≤ 1000000) (hsm : small ss) (hP : Places w) (hs : SlS w A n c ss) :
    Calls Tryd.prog 34 #[.agg #[.slice A n c], .agg (us d.1)] w fun e w' => e = .returned (.tuple #[.string (getE ss d).1, .int .i64 (getE ss d).2]) ∧ Grow w w' := by
  have H0 := Lib.hid (FiAt.new (d := d) hs hP)
  have HM := Lib.hid hsm
  have HL := Lib.hid hs.2.2.1
  have sd := d.sz
  clear hP hs hsm
  go_enter Tryd.func34, Tryd.ntmps34
  go_upto_region 1 with (fail)
  refine wp_gen (fun W => FiAt w W A n c ss d) H0.out ?_
  clear H0
  intro w1 h1
  have hB := h1.st.box
  have hcell := hB.cell 0
  have hD := h1.dg
  have H1 := Lib.hid h1
  clear h1
  go_wp2_with (first
    | (refine wpList_load_row_g rfl TSt (.tmp 2) rfl w.heap.size rfl _ #[.slice A n c] (0, 0) _ hB Tryd.underlying24 rfl (st_row A n c) ?_)
    | (refine wpList_load_row_g rfl 27 (.tmp 3) rfl (w.heap.size + 1) rfl _ (us d.1) (0, 0) _ hD Tryd.underlying27 rfl (by rw [sd]; kernel_rfl) ?_))
  refine (find_c d A n c ss _ hn HM.out H1.out.st.pla H1.out.st.sl).mono ?_
  rintro e w2 ⟨rfl, hg2⟩
  have H2 := Lib.hid (H1.out.st.grow hg2)
  clear hg2 hB hD hcell
  rcases findE_cases ss d with hno | ⟨j, hj, hyes⟩
  · have Hg := Lib.hid (show getE ss d = (ByteArray.empty, 6) by unfold getE; rw [hno]; rfl)
    rw [hno]
    clear hno
    go_wp2_with fail
    go_ret2
    exact ⟨by rw [Hg.out]; rfl, H2.out.gro⟩
  · rw [HL.out] at hj
    have Hg := Lib.hid (show getE ss d = (ss.getD j ByteArray.empty, 0) by unfold getE; rw [hyes, if_neg (by omega)]; rfl)
    rw [hyes]
    clear hyes
    have t1 : decide ((j : Int) < 0) = false := by simp
    have b1 : (0 : Int) ≤ j := by omega
    have b2 : (j : Int) < n := by omega
    have hcell := H2.out.box.cell 0
    obtain ⟨g, o, rfl, -, -⟩ := H2.out.sl.2.2.2 (by omega)
    have hcc := Lib.hid H2.out.sl.1
    have hc2 := H2.out.sl.at j hj
    generalize ss.getD j ByteArray.empty = s at *
    go_wp2_with fail
    go_ret2
    exact ⟨by rw [Hg.out]; rfl, H2.out.gro⟩
set_option maxRecDepth 100000 in
set_option maxHeartbeats 2000000 in
theorem rget_c (d : D) (A : Option Addr) (n c : Nat) (ss : List ByteArray) (w : World) (hn : n ≤ 1000000) (hsm : small ss) (hP : Places w) (hs : SlS w A n c ss) :
    Calls Tryd.prog 35 #[.agg #[.slice A n c], .agg (us d.1)] w fun e w' => e = .returned (.tuple #[.string (getE ss d).1, .int .i64 (getE ss d).2]) ∧ Grow w w' := by
  have H0 := Lib.hid (FiAt.new (d := d) hs hP)
  have HM := Lib.hid hsm
  have HL := Lib.hid hs.2.2.1
  have sd := d.sz
  clear hP hs hsm
  go_enter Tryd.func35, Tryd.ntmps35
  go_upto_region 1 with (fail)
  refine wp_gen (fun W => FiAt w W A n c ss d) H0.out ?_
  clear H0
  intro w1 h1
  have hB := h1.st.box
  have hcell := hB.cell 0
  have hD := h1.dg
  have H1 := Lib.hid h1
  clear h1
  go_wp2_with (first
    | (refine wpList_load_row_g rfl TSt (.tmp 2) rfl w.heap.size rfl _ #[.slice A n c] (0, 0) _ hB Tryd.underlying24 rfl (st_row A n c) ?_)
    | (refine wpList_load_row_g rfl 27 (.tmp 3) rfl (w.heap.size + 1) rfl _ (us d.1) (0, 0) _ hD Tryd.underlying27 rfl (by rw [sd]; kernel_rfl) ?_))
  refine (rfind_c d A n c ss _ hn HM.out H1.out.st.pla H1.out.st.sl).mono ?_
  rintro e w2 ⟨rfl, hg2⟩
  have H2 := Lib.hid (H1.out.st.grow hg2)
  clear hg2 hB hD hcell
  rcases findE_cases ss d with hno | ⟨j, hj, hyes⟩
  · have Hg := Lib.hid (show getE ss d = (ByteArray.empty, 6) by unfold getE; rw [hno]; rfl)
    rw [hno]
    clear hno
    go_wp2_with fail
    go_ret2
    exact ⟨by rw [Hg.out]; rfl, H2.out.gro⟩
  · rw [HL.out] at hj
    have Hg := Lib.hid (show getE ss d = (ss.getD j ByteArray.empty, 0) by unfold getE; rw [hyes, if_neg (by omega)]; rfl)
    rw [hyes]
    clear hyes
    have t1 : decide ((j : Int) < 0) = false := by simp
    have b1 : (0 : Int) ≤ j := by omega
    have b2 : (j : Int) < n := by omega
    have hcell := H2.out.box.cell 0
    obtain ⟨g, o, rfl, -, -⟩ := H2.out.sl.2.2.2 (by omega)
    have hcc := Lib.hid H2.out.sl.1
    have hc2 := H2.out.sl.at j hj
    generalize ss.getD j ByteArray.empty = s at *
    go_wp2_with fail
    go_ret2
    exact ⟨by rw [Hg.out]; rfl, H2.out.gro⟩
end Go.Proofs.YtamllmoakgnjoaaDoor
/- append of one string to a full slice of strings that may be anybody's: a new row; no law of the program is named here. -/
namespace Go.Proofs.YtamllmoakgnjoaaDoor
open Go.RowKit
section
variable {P : Program}
theorem fullS_new {w : World} {A : Option Addr} {n c : Nat} {ss : List ByteArray} (hs : SlS w A n c ss) (s : ByteArray) (e : TypeId) (Z : Array Value) (cap : Nat) (h1 : n + 1 ≤ cap) (h2 : cap ≤ maxLen) :
    SlS (w.drew.alloc (.cells ((ss.map Value.string).toArray ++ [Value.string s].toArray ++ Z) e)) (some ⟨w.heap.size, 0, none⟩) (n + 1) cap (ss ++ [s]) ∧ Grow w (w.drew.alloc (.cells ((ss.map Value.string).toArray ++ [Value.string s].toArray ++ Z) e)) := by
  refine ⟨⟨h1, h2, by simp [hs.2.2.1], fun _ => ⟨w.heap.size, 0, rfl, by simp, fun i hi => ?_⟩⟩, (Grow.refl w).drew.alloc (Nat.le_refl _) _⟩
  have hc : ((ss.map Value.string).toArray ++ [Value.string s].toArray ++ Z) = ((ss ++ [s]).map Value.string).toArray ++ Z := by simp
  have hB : Blk (w.drew.alloc (.cells ((ss.map Value.string).toArray ++ [Value.string s].toArray ++ Z) e)) w.heap.size e _ := Blk.new w.drew e _
  have hl : i < (ss ++ [s]).length := by simp [hs.2.2.1]; omega
  rw [Nat.zero_add, hB.cell, hc, Array.getElem?_append_left (by simpa using hl), List.getElem?_toArray, List.getElem?_map, List.getD_eq_getElem?_getD, List.getElem?_eq_getElem hl]
  rfl
theorem run_append_fullS (t ty e : TypeId) (z : Value) (bytes : Nat) (ht : P.underlying t = some (.slice e)) (hinfo : (P.info? e).map (fun i => (i.zero, i.size, i.bytes)) = some (some z, 1, bytes))
    {w : World} {A : Option Addr} {n : Nat} {ss : List ByteArray} (hs : SlS w A n n ss) (b : Nat) (s : ByteArray) (hB : Blk w b e #[.string s]) (hm : n + 1 ≤ maxLen) (hby : (n + 1) * bytes ≤ 140737488355328) :
    ∃ A' c' w', (Builtin.append_ #[t, t] ty #[.slice A n n, .slice (some ⟨b, 0, none⟩) 1 1]).run P w = .ok (.slice A' (n + 1) c') w' ∧ SlS w' A' (n + 1) c' (ss ++ [s]) ∧ Grow w w' := by
  obtain ⟨i, hi, hz, hsz, rfl⟩ := info_parts hinfo
  have hm' := hm
  simp only [maxLen] at hm'
  have hnews : ∀ j v, [Value.string s][j]? = some v → w.cell? ((⟨b, 0, none⟩ : Addr).add j) = some v := fun j v hv => by
    rw [Addr.add_mid, hB.cell, Nat.zero_add]
    simpa using hv
  cases A with
  | none =>
    have hn : n = 0 := by
      rcases Nat.eq_zero_or_pos n with h | h
      · exact h
      · obtain ⟨g, o, e, _⟩ := hs.2.2.2 h
        cases e
    subst hn
    have hss : ss = [] := List.eq_nil_of_length_eq_zero hs.2.2.1
    subst hss
    have hr := run_append_nil (P := P) w t ty e i z ht hi hz ⟨b, 0, none⟩ 1 1 [Value.string s] (by rw [hsz]; rfl) hnews (by omega) (by omega) (by simp only [Nat.zero_add] at hby; omega)
    have hf := fullS_new hs s e (Builtin.zeroCells z.cells (grownCap w 1 0 e - 1)) (grownCap w 1 0 e) (grownCap_ge _ _ _ _) (grownCap_le_maxLen _ _ _ _ (by simp [maxLen]))
    simp only [List.map_nil, List.nil_append, Array.empty_append] at hf hr
    exact ⟨_, _, _, hr, hf.1, hf.2⟩
  | some ad =>
    have holds : ∀ j v, (ss.map Value.string)[j]? = some v → w.cell? (ad.add j) = some v := fun j v hv => by
      have hj : j < ss.length := by simpa using (List.getElem?_eq_some_iff.1 hv).1
      obtain ⟨g, o, e', _, hc⟩ := hs.2.2.2 (by rw [← hs.2.2.1]; omega)
      injection e' with e'
      subst e'
      rw [Addr.add_mid, hc j (by rw [← hs.2.2.1]; exact hj), List.getD_eq_getElem?_getD, List.getElem?_eq_getElem hj]
      rw [List.getElem?_map, List.getElem?_eq_getElem hj] at hv
      exact hv
    have hr := run_append_grow (P := P) w t ty e i z ht hi hz ad n n (ss.map Value.string) (by rw [hsz]; simp [hs.2.2.1]) holds ⟨b, 0, none⟩ 1 1 [Value.string s] (by rw [hsz]; rfl) hnews (by omega) (by omega) (growslice_fits (by omega) hby)
    have hf := fullS_new hs s e (Builtin.zeroCells z.cells (grownCap w (n + 1) n e - (n + 1))) (grownCap w (n + 1) n e) (grownCap_ge _ _ _ _) (grownCap_le_maxLen _ _ _ _ hm)
    exact ⟨_, _, _, hr, hf.1, hf.2⟩
theorem wpList_append_fullS {ops : Array Oper} {rest : List Oper} {o : Oper} {a : Act} {Q : Exit → Act → World → Prop} {w : World} (hgd : o.guard = none) (s x : Operand) (t : TypeId)
    (ho : o.op = .call { callee := .builtin .append, args := #[s, x], argTypes := #[t, t] })
    (e : TypeId) (z : Value) (bytes : Nat) (ht : P.underlying t = some (.slice e)) (hinfo : (P.info? e).map (fun i => (i.zero, i.size, i.bytes)) = some (some z, 1, bytes))
    (A : Option Addr) (n : Nat) (ss : List ByteArray) (hv : a.eval s = .slice A n n) (hs : SlS w A n n ss) (b : Nat) (y : ByteArray) (hx : a.eval x = .slice (some ⟨b, 0, none⟩) 1 1) (hB : Blk w b e #[.string y]) (hm : n + 1 ≤ maxLen) (hby : (n + 1) * bytes ≤ 140737488355328)
    (h : ∀ A' c' w', SlS w' A' (n + 1) c' (ss ++ [y]) → Grow w w' → wpList P ops Q rest (a.put o.dst (.slice A' (n + 1) c')) w') : wpList P ops Q (o :: rest) a w := by
  refine wpList_plain hgd fun K hK' => ?_
  obtain ⟨A', c', w', hrun, r1, r2⟩ := run_append_fullS (P := P) t o.type e z bytes ht hinfo hs b y hB hm hby
  unfold Oper.wp
  simp [execOp, ho, resolve, invoke, builtin, hv, hx, hrun, Result.andThen]
  exact hK' _ _ (h A' c' w' r1 r2)
end
end Go.Proofs.YtamllmoakgnjoaaDoor
/- A slice literal of one string; no law of the program is named here. -/
namespace Go.Proofs.YtamllmoakgnjoaaDoor
open Go.RowKit
section
variable {P : Program}
theorem run_buildSlice_S (t e : TypeId) (z : ByteArray) (bytes : Nat) (ht : P.underlying t = some (.slice e)) (hinfo : (P.info? e).map (fun i => (i.zero, i.size, i.bytes)) = some (some (.string z), 1, bytes))
    (s : ByteArray) (w : World) : (Instr.buildSlice t 1 #[(0, .string s)]).run P w = .ok (.slice (some ⟨w.heap.size, 0, none⟩) 1 1) (w.alloc (.cells #[.string s] e)) := by
  obtain ⟨i, hi, hzz, hsz, rfl⟩ := info_parts hinfo
  simp [Instr.buildSlice, run_underlying ht, sizeOf, typeInfo, hi, hsz, zeroValue, hzz, Value.cells, Instr.fill, go_sem]
theorem wpList_buildSlice_S {ops : Array Oper} {rest : List Oper} {o : Oper} {a : Act} {Q : Exit → Act → World → Prop} {w : World} (hgd : o.guard = none) (t e : TypeId) (x : Operand) (ho : o.op = .buildSlice t 1 #[(0, x)]) (z : ByteArray) (bytes : Nat) (ht : P.underlying t = some (.slice e)) (hinfo : (P.info? e).map (fun i => (i.zero, i.size, i.bytes)) = some (some (.string z), 1, bytes))
    (s : ByteArray) (hx : a.eval x = .string s) (h : wpList P ops Q rest (a.put o.dst (.slice (some ⟨w.heap.size, 0, none⟩) 1 1)) (w.alloc (.cells #[.string s] e))) : wpList P ops Q (o :: rest) a w :=
  wpList_plain hgd fun _ hK => by
    unfold Oper.wp execOp
    simp only [ho, List.map_toArray, List.map_cons, List.map_nil, hx, run_buildSlice_S t e z bytes ht hinfo s, Sem.run_bind, Result.andThen_ok]
    exact hK _ _ h
/-- Results: a struct's cell and two slots. -/
theorem results_row_tmp2 {fn : Func} {p q r : Tmp} {ty : TypeId} (h : fn.results = #[.cell p ty, .tmp q, .tmp r]) (tmps : Array Value) (w : World) (g : Nat) (t : TypeId) (cs : Array Value) (fr : Nat × Nat) (d : TypeDesc)
    (hp : tmps.getD p undef = .pointer (some ⟨g, 0, none⟩)) (hg : w.heap[g]? = some (.cells cs t fr))
    (hu : P.underlying ty = some d) (hd : (match d with | .struct _ | .array _ _ => true | _ => false) = true) (hi : (P.info? ty).map (·.size) = some cs.size) :
    (results fn tmps).run P w = .ok (.tuple #[.agg cs, tmps.getD q undef, tmps.getD r undef]) w := by
  have h0 : (results fn tmps).run P w = ((asAddr (tmps.getD p undef)).run P w).andThen fun a w₁ => ((loadVar ty a).run P w₁).andThen fun v w₂ => .ok (.tuple #[v, tmps.getD q undef, tmps.getD r undef]) w₂ := by
    simp only [results, h]
    simp [Sem.run_bind, Result.andThen]
  rw [h0, hp]
  simp [asAddr, run_loadVar_row w g t ty cs fr d hg hu hd hi]
end
end Go.Proofs.YtamllmoakgnjoaaDoor
/- store.Add answers addE: the store that comes of it, the place, and the number of the error. -/
namespace Go.Proofs.YtamllmoakgnjoaaDoor
open Go.RowKit
/-- What comes of adding an item. -/
def addE (ss : List ByteArray) (a : ByteArray) : List ByteArray × Int × Int :=
  if 0 ≤ findE ss (digE a) then (if ss.getD (findE ss (digE a)).toNat ByteArray.empty = a then (ss, findE ss (digE a), 0) else ([], 0, 8))
  else if 1000 ≤ ss.length then ([], 0, 2) else (ss ++ [a], ss.length, 0)
theorem addE_same {ss : List ByteArray} {a : ByteArray} {j : Nat} (h : findE ss (digE a) = (j : Int)) (he : ss.getD j ByteArray.empty = a) : addE ss a = (ss, (j : Int), 0) := by
  unfold addE; rw [h, if_pos (by omega), Int.toNat_natCast, if_pos he]
theorem addE_other {ss : List ByteArray} {a : ByteArray} {j : Nat} (h : findE ss (digE a) = (j : Int)) (he : ss.getD j ByteArray.empty ≠ a) : addE ss a = ([], 0, 8) := by
  unfold addE; rw [h, if_pos (by omega), Int.toNat_natCast, if_neg he]
theorem addE_full {ss : List ByteArray} {a : ByteArray} (h : findE ss (digE a) = -1) (hl : 1000 ≤ ss.length) : addE ss a = ([], 0, 2) := by
  unfold addE; rw [h, if_neg (by omega), if_pos hl]
theorem addE_new {ss : List ByteArray} {a : ByteArray} (h : findE ss (digE a) = -1) (hl : ss.length < 1000) : addE ss a = (ss ++ [a], (ss.length : Int), 0) := by
  unfold addE; rw [h, if_neg (by omega), if_neg (by omega)]
theorem info_strg : (Tryd.prog.info? 9).map (fun i => (i.zero, i.size, i.bytes)) = some (some (.string ByteArray.empty), 1, 16) := by kernel_rfl
theorem SlS.setRow {w : World} {A A0 : Option Addr} {n c n0 c0 g : Nat} {l : List ByteArray} {e : TypeId} (h : SlS w A n c l) (hB : Blk w g e #[.slice A0 n0 c0]) (cs : Array Value) : SlS (w.setRow g cs) A n c l := by
  obtain ⟨h1, h2, h3, h4⟩ := h
  refine ⟨h1, h2, h3, fun hn => ?_⟩
  obtain ⟨g', o, e', hl, hc⟩ := h4 hn
  have hne : g' ≠ g := by
    intro he
    subst he
    have := hc 0 hn
    rw [hB.cell] at this
    rcases o with _ | o <;> simp at this
  refine ⟨g', o, e', by simpa using hl, fun i hi => ?_⟩
  exact (cell_setRow_other w g cs ⟨g', o + i, Option.none⟩ hne).trans (hc i hi)
theorem build_st1 (A : Option Addr) (n c : Nat) (w : World) : (Instr.build TSt #[(0, .slice A n c)]).run Tryd.prog w = .ok (.agg #[.slice A n c]) w := run_build w TSt _ _ (by kernel_rfl)
structure AdAt (w0 w : World) (A : Option Addr) (n c : Nat) (ss : List ByteArray) : Prop where
  st : StAt w0 w A n c ss
  res : Blk w (w0.heap.size + 1) TSt #[.slice none 0 0]
theorem AdAt.grow {w0 w w' : World} {A : Option Addr} {n c : Nat} {ss : List ByteArray} (h : AdAt w0 w A n c ss) (hg : Grow w w') : AdAt w0 w' A n c ss := ⟨h.st.grow hg, h.res.grow hg⟩
theorem AdAt.new {w : World} {A : Option Addr} {n c : Nat} {ss : List ByteArray} (hs : SlS w A n c ss) (hP : Places w) : AdAt w ((w.alloc (.cells #[.slice A n c] TSt)).alloc (.cells #[.slice none 0 0] TSt)) A n c ss :=
  ⟨(StAt.new hs hP).grow ((Grow.refl _).alloc (Nat.le_refl _) _), Blk.new1 _ _ _ _⟩
theorem st_one (A : Option Addr) (n c : Nat) : (#[Value.slice A n c]).all (·.oneCell') = true := by simp [Value.oneCell']
set_option maxRecDepth 100000 in
set_option maxHeartbeats 4000000 in
theorem add_c (A : Option Addr) (n c : Nat) (ss : List ByteArray) (a : ByteArray) (w : World) (hn : n ≤ 1000000) (ha : a.size ≤ 1000000) (hsm : small ss) (hP : Places w) (hs : SlS w A n c ss) :
    Calls Tryd.prog 32 #[.agg #[.slice A n c], .string a] w fun e w' => ∃ A' n' c', e = .returned (.tuple #[.agg #[.slice A' n' c'], .int .i64 (addE ss a).2.1, .int .i64 (addE ss a).2.2]) ∧ SlS w' A' n' c' (addE ss a).1 ∧ Grow w w' := by
  have H0 := Lib.hid (AdAt.new hs hP)
  have HM := Lib.hid hsm
  have HL := Lib.hid hs.2.2.1
  have Hc := Lib.hid (findE_cases ss (digE a))
  have Esame := Lib.hid (fun j h he => addE_same (ss := ss) (a := a) (j := j) h he)
  have Eoth := Lib.hid (fun j h he => addE_other (ss := ss) (a := a) (j := j) h he)
  have Efull := Lib.hid (fun h hl => addE_full (ss := ss) (a := a) h hl)
  have Enew := Lib.hid (fun h hl => addE_new (ss := ss) (a := a) h hl)
  have m1 := Lib.hid (fun W (hp : Places W) => of_s a W ha hp)
  clear hs hP hsm
  generalize digE a = x at *
  have m2 := Lib.hid (fun W (hW : AdAt w W A n c ss) => find_c x A n c ss W hn HM.out hW.st.pla hW.st.sl)
  generalize findE ss x = fi at *
  go_enter Tryd.func32, Tryd.ntmps32
  go_upto_region 1 with (fail)
  refine wp_gen (fun W => AdAt w W A n c ss) H0.out ?_
  clear H0
  intro w1 h1
  have H1 := Lib.hid h1
  clear h1
  refine wp_region_all (fun W => AdAt w W A n c ss) (by kernel_rfl) (by kernel_rfl) (H1.out.grow (Grow.refl _).drew) ?_
  refine quiet_load_row rfl TSt (.tmp 2) rfl w.heap.size rfl _ #[.slice A n c] (0, 0) _ (fun W hW => hW.st.box) Tryd.underlying24 rfl (st_row A n c) ?_
  simp only [Act.put, List.setIfInBounds_toArray, List.set_cons_zero, List.set_cons_succ]
  (refine quiet_ex rfl ?_; apply Exists.intro; refine ⟨fun W hW => ?_, ?_⟩)
  · go_simp; try with_reducible rfl
  simp only [Act.put, List.setIfInBounds_toArray, List.set_cons_zero, List.set_cons_succ]
  (refine quiet_at rfl ⟨.agg (us x.1), fun W hW => ?_, ?_⟩)
  · go_simp; exact (m1.out _ hW.st.pla).mono (fun e w' h => ⟨h.1, hW.grow h.2⟩)
  simp only [Act.put, List.setIfInBounds_toArray, List.set_cons_zero, List.set_cons_succ]
  (refine quiet_at rfl ⟨.int .i64 fi, fun W hW => ?_, ?_⟩)
  · go_simp; exact (m2.out _ hW).mono (fun e w' h => ⟨h.1, hW.grow h.2⟩)
  simp only [Act.put, List.setIfInBounds_toArray, List.set_cons_zero, List.set_cons_succ]
  (refine quiet_ex rfl ?_; apply Exists.intro; refine ⟨fun W hW => ?_, ?_⟩)
  · go_simp; try with_reducible rfl
  simp only [Act.put, List.setIfInBounds_toArray, List.set_cons_zero, List.set_cons_succ]
  refine wpQuiet_nil ?_
  intro w2 h2
  have hcell := h2.st.box.cell 0
  have hB := h2.st.box
  have hR := h2.res
  have H2 := Lib.hid h2
  clear h2 H1 m1 m2
  rcases Hc.out with hno | ⟨j, hj, hyes⟩
  · subst hno
    by_cases hl : 1000 ≤ n
    · have t1 : decide ((1000 : Int) ≤ (n : Int)) = true := by simp; omega
      have t1' : decide (1000 ≤ n) = true := by simp; omega
      have Hf := Lib.hid (Efull.out rfl (by rw [HL.out]; exact hl))
      go_wp2_with (first
        | (refine wpList_build rfl TSt #[] rfl [] (by simp) (.agg #[.slice none 0 0]) (build_st0 _) ?_)
        | (refine wpList_store_row rfl TSt (.tmp 4) (.tmp 30) rfl (w.heap.size + 1) #[.slice none 0 0] rfl rfl _ _ hR (st_row _ _ _) rfl (st_one _ _ _) ?_))
      refine bodyPost_ret (results_row_tmp2 (p := 4) (q := 5) (r := 6) (ty := TSt) rfl _ _ (w.heap.size + 1) _ #[.slice none 0 0] (0, 0) _ rfl (setRow_heap _ _ _ _ _ _ hR) Tryd.underlying24 rfl (st_row _ _ _)) rfl ⟨none, 0, 0, by rw [Hf.out]; rfl, by rw [Hf.out]; exact SlS.none _, H2.out.st.gro.setRow (by omega) _⟩
    · have t1 : decide ((1000 : Int) ≤ (n : Int)) = false := by simp; omega
      have t1' : decide (1000 ≤ n) = false := by simp; omega
      have Hf := Lib.hid (show addE ss a = (ss ++ [a], (n : Int), 0) by rw [Enew.out rfl (by rw [HL.out]; omega), HL.out])
      have hga : Grow w2 (w2.alloc (.cells #[.string a] 9)) := (Grow.refl _).alloc (Nat.le_refl _) _
      have hs3 : SlS (w2.alloc (.cells #[.string a] 9)) A n n ss := by
        have := (H2.out.st.sl.grow hga).take n n (Nat.le_refl _) (Nat.le_refl _) (by simp only [maxLen]; omega)
        rwa [List.take_of_length_le (by rw [HL.out]; omega)] at this
      have hcc := H2.out.st.sl.1
      go_upto_region 9 with (fail)
      clear t1 t1'
      have b1 : (0 : Int) ≤ n := by omega
      go_wp2_with (first
        | (refine wpList_buildSlice_S rfl 22 9 (.tmp 36) rfl ByteArray.empty 16 Tryd.underlying22 info_strg a rfl ?_)
        | (at_builtin; refine wpList_append_fullS rfl (.tmp 35) (.tmp 37) 22 rfl 9 (.string ByteArray.empty) 16 Tryd.underlying22 info_strg A n ss rfl hs3 w2.heap.size a rfl (Blk.new _ _ _) (by simp only [maxLen]; omega) (by omega) ?_; intro A' c' w3 hs4 hg4; have hR3 := (hR.alloc (.cells #[.string a] 9)).grow hg4)
        | (refine wpList_build rfl TSt #[(0, .tmp 38)] rfl [(0, .slice A' (n + 1) c')] (by simp only [List.map_toArray, List.map_cons, List.map_nil]; rfl) (.agg #[.slice A' (n + 1) c']) (build_st1 A' (n + 1) c' _) ?_)
        | (refine wpList_store_row rfl TSt (.tmp 4) (.tmp 39) rfl (w.heap.size + 1) #[.slice A' (n + 1) c'] rfl rfl _ _ hR3 (st_row _ _ _) rfl (st_one _ _ _) ?_))
      refine bodyPost_ret (results_row_tmp2 (p := 4) (q := 5) (r := 6) (ty := TSt) rfl _ _ (w.heap.size + 1) _ #[.slice A' (n + 1) c'] (0, 0) _ rfl (setRow_heap _ _ _ _ _ _ hR3) Tryd.underlying24 rfl (st_row _ _ _)) rfl ⟨A', n + 1, c', by rw [Hf.out]; rfl, by rw [Hf.out]; exact hs4.setRow hR3 _, (H2.out.st.gro.tr (hga.tr hg4)).setRow (by omega) _⟩
  · rw [HL.out] at hj
    subst hyes
    have t0 : decide ((0 : Int) ≤ (j : Int)) = true := by simp
    have b1 : (0 : Int) ≤ j := by omega
    have b2 : (j : Int) < n := by omega
    obtain ⟨g, o, rfl, -, -⟩ := H2.out.st.sl.2.2.2 (by omega)
    have hcc := Lib.hid H2.out.st.sl.1
    have hc2 := H2.out.st.sl.at j hj
    have Es := Lib.hid (Esame.out j rfl)
    have Eo := Lib.hid (Eoth.out j rfl)
    clear Esame Eoth Efull Enew
    generalize ss.getD j ByteArray.empty = s at *
    by_cases he : s = a
    · have Hf := Lib.hid (Es.out he)
      have t2 : (s.toList == a.toList) = true := by rw [he]; simp
      clear he
      go_wp2_with (first
        | (refine wpList_store_row rfl TSt (.tmp 4) (.tmp 23) rfl (w.heap.size + 1) #[.slice (some ⟨g, o, none⟩) n c] rfl rfl _ _ hR (st_row _ _ _) rfl (st_one _ _ _) ?_))
      refine bodyPost_ret (results_row_tmp2 (p := 4) (q := 5) (r := 6) (ty := TSt) rfl _ _ (w.heap.size + 1) _ #[.slice (some ⟨g, o, none⟩) n c] (0, 0) _ rfl (setRow_heap _ _ _ _ _ _ hR) Tryd.underlying24 rfl (st_row _ _ _)) rfl ⟨some ⟨g, o, none⟩, n, c, by rw [Hf.out]; rfl, by rw [Hf.out]; exact H2.out.st.sl.setRow hR _, H2.out.st.gro.setRow (by omega) _⟩
    · have Hf := Lib.hid (Eo.out he)
      have t2 : (s.toList == a.toList) = false := by simpa [ByteArray.toList_eq, ByteArray.ext_iff] using he
      clear he
      go_wp2_with (first
        | (refine wpList_build rfl TSt #[] rfl [] (by simp) (.agg #[.slice none 0 0]) (build_st0 _) ?_)
        | (refine wpList_store_row rfl TSt (.tmp 4) (.tmp 22) rfl (w.heap.size + 1) #[.slice none 0 0] rfl rfl _ _ hR (st_row _ _ _) rfl (st_one _ _ _) ?_))
      refine bodyPost_ret (results_row_tmp2 (p := 4) (q := 5) (r := 6) (ty := TSt) rfl _ _ (w.heap.size + 1) _ #[.slice none 0 0] (0, 0) _ rfl (setRow_heap _ _ _ _ _ _ hR) Tryd.underlying24 rfl (st_row _ _ _)) rfl ⟨none, 0, 0, by rw [Hf.out]; rfl, by rw [Hf.out]; exact SlS.none _, H2.out.st.gro.setRow (by omega) _⟩
end Go.Proofs.YtamllmoakgnjoaaDoor
/- seedcornlaw42.small answers whether a store has few items, of few bytes each, no one twice; and facts of the digest of "ab" (awake). -/
namespace Go.Proofs.YtamllmoakgnjoaaDoor
open Go.RowKit
theorem fewE_small42 {ss : List ByteArray} {most bytes : Nat} (h : fewE ss most bytes = true) (hb : bytes ≤ 1000000) : small ss := fun s hs => Nat.le_trans ((fewE_spec h).2 s hs) hb
set_option maxRecDepth 100000 in
set_option maxHeartbeats 2000000 in
theorem small42_c (A : Option Addr) (n c : Nat) (ss : List ByteArray) (w : World) (hsz : ∀ s ∈ ss, s.size ≤ maxLen) (hP : Places w) (hs : SlS w A n c ss) :
    Calls Tryd.prog 30 #[.agg #[.slice A n c]] w fun e w' => e = .returned (.bool (fewE ss 20 60 && rightE ss)) ∧ Grow w w' := by
  have HS0 := Lib.hid (StAt.new hs hP)
  have HL := Lib.hid hs.2.2.1
  have f1 := Lib.hid (fun W (hW : StAt w W A n c ss) => rfew_c A n c ss 20 60 W (by omega) (by omega) hsz hW.pla hW.sl)
  have f2 := Lib.hid (fun W (hW : StAt w W A n c ss) (h : fewE ss 20 60 = true) => rright_c A n c ss W (by have := (fewE_spec h).1; rw [hs.2.2.1] at this; omega) (fewE_small42 h (by omega)) hW.pla hW.sl)
  clear hs hP hsz
  generalize hb : fewE ss 20 60 = b at *
  generalize hr : rightE ss = r at *
  clear hb hr
  go_enter Tryd.func30, Tryd.ntmps30
  go_upto_region 1 with (fail)
  refine wp_gen (fun W => StAt w W A n c ss) HS0.out ?_
  clear HS0
  intro w1 h1
  have hB := h1.box
  have H1 := Lib.hid h1
  clear h1
  go_wp2_with (refine wpList_load_row_g rfl TSt (.tmp 1) rfl w.heap.size rfl _ #[.slice A n c] (0, 0) _ hB Tryd.underlying24 rfl (st_row A n c) ?_)
  refine (f1.out _ H1.out).mono ?_
  rintro e w2 ⟨rfl, hg2⟩
  have hB2 := hB.grow hg2
  have H2 := Lib.hid (H1.out.grow hg2)
  clear hg2 hB
  cases b
  · go_wp2_with fail
    go_ret
    exact ⟨rfl, H2.out.gro⟩
  · go_wp2_with (refine wpList_load_row_g rfl TSt (.tmp 1) rfl w.heap.size rfl _ #[.slice A n c] (0, 0) _ hB2 Tryd.underlying24 rfl (st_row A n c) ?_)
    refine (f2.out _ H2.out trivial).mono ?_
    rintro e w3 ⟨rfl, hg3⟩
    have H3 := Lib.hid (H2.out.grow hg3)
    clear hg3
    go_wp2_with fail
    go_ret
    exact ⟨by rw [Bool.true_and]; rfl, H3.out.gro⟩
theorem ab_nz : decide (ofE [97, 98] = D.zero) = false := by decide
end Go.Proofs.YtamllmoakgnjoaaDoor
