/- store.Get and seedcornref42.Get answer getE. -/
import Derived.Test.YtamllmoakgnjoaaDoorFindC
namespace Go.Proofs.YtamllmoakgnjoaaDoor
open Go.RowKit
/-- What is got by a digest: the item, or nothing and the number of the error. -/
def getE (ss : List ByteArray) (d : D) : ByteArray × Int := if findE ss d < 0 then (ByteArray.empty, 6) else (ss.getD (findE ss d).toNat ByteArray.empty, 0)
set_option maxRecDepth 100000 in
set_option maxHeartbeats 2000000 in
theorem get_c (d : D) (A : Option Addr) (n c : Nat) (ss : List ByteArray) (w : World) (hn : n ≤ 1000000) (hsm : small ss) (hP : Places w) (hs : SlS w A n c ss) :
    Calls Tryd.prog 34 #[.agg #[.slice A n c], .agg (us d.1)] w fun e w' => e = .returned (.tuple #[.string (getE ss d).1, .int .i64 (getE ss d).2]) ∧ Grow w w' := by
  have H0 := Lib.hid (FiAt.new (d := d) hs hP)
  have HM := Lib.hid hsm
  have HL := Lib.hid hs.2.2.1
  have sd := d.sz
  clear hP hs hsm
  go_enter Tryd.func34, Tryd.ntmps34
  go_upto_region 1 with (fail)
  refine wp_gen (fun W => FiAt w W A n c ss d) H0.out ?_
  clear H0
  intro w1 h1
  have hB := h1.st.box
  have hcell := hB.cell 0
  have hD := h1.dg
  have H1 := Lib.hid h1
  clear h1
  go_wp2_with (first
    | (refine wpList_load_row_g rfl TSt (.tmp 2) rfl w.heap.size rfl _ #[.slice A n c] (0, 0) _ hB Tryd.underlying24 rfl (st_row A n c) ?_)
    | (refine wpList_load_row_g rfl 27 (.tmp 3) rfl (w.heap.size + 1) rfl _ (us d.1) (0, 0) _ hD Tryd.underlying27 rfl (by rw [sd]; kernel_rfl) ?_))
  refine (find_c d A n c ss _ hn HM.out H1.out.st.pla H1.out.st.sl).mono ?_
  rintro e w2 ⟨rfl, hg2⟩
  have H2 := Lib.hid (H1.out.st.grow hg2)
  clear hg2 hB hD hcell
  rcases findE_cases ss d with hno | ⟨j, hj, hyes⟩
  · have Hg := Lib.hid (show getE ss d = (ByteArray.empty, 6) by unfold getE; rw [hno]; rfl)
    rw [hno]
    clear hno
    go_wp2_with fail
    go_ret2
    exact ⟨by rw [Hg.out]; rfl, H2.out.gro⟩
  · rw [HL.out] at hj
    have Hg := Lib.hid (show getE ss d = (ss.getD j ByteArray.empty, 0) by unfold getE; rw [hyes, if_neg (by omega)]; rfl)
    rw [hyes]
    clear hyes
    have t1 : decide ((j : Int) < 0) = false := by simp
    have b1 : (0 : Int) ≤ j := by omega
    have b2 : (j : Int) < n := by omega
    have hcell := H2.out.box.cell 0
    obtain ⟨g, o, rfl, -, -⟩ := H2.out.sl.2.2.2 (by omega)
    have hcc := Lib.hid H2.out.sl.1
    have hc2 := H2.out.sl.at j hj
    generalize ss.getD j ByteArray.empty = s at *
    go_wp2_with fail
    go_ret2
    exact ⟨by rw [Hg.out]; rfl, H2.out.gro⟩
set_option maxRecDepth 100000 in
set_option maxHeartbeats 2000000 in
theorem rget_c (d : D) (A : Option Addr) (n c : Nat) (ss : List ByteArray) (w : World) (hn : n ≤ 1000000) (hsm : small ss) (hP : Places w) (hs : SlS w A n c ss) :
    Calls Tryd.prog 35 #[.agg #[.slice A n c], .agg (us d.1)] w fun e w' => e = .returned (.tuple #[.string (getE ss d).1, .int .i64 (getE ss d).2]) ∧ Grow w w' := by
  have H0 := Lib.hid (FiAt.new (d := d) hs hP)
  have HM := Lib.hid hsm
  have HL := Lib.hid hs.2.2.1
  have sd := d.sz
  clear hP hs hsm
  go_enter Tryd.func35, Tryd.ntmps35
  go_upto_region 1 with (fail)
  refine wp_gen (fun W => FiAt w W A n c ss d) H0.out ?_
  clear H0
  intro w1 h1
  have hB := h1.st.box
  have hcell := hB.cell 0
  have hD := h1.dg
  have H1 := Lib.hid h1
  clear h1
  go_wp2_with (first
    | (refine wpList_load_row_g rfl TSt (.tmp 2) rfl w.heap.size rfl _ #[.slice A n c] (0, 0) _ hB Tryd.underlying24 rfl (st_row A n c) ?_)
    | (refine wpList_load_row_g rfl 27 (.tmp 3) rfl (w.heap.size + 1) rfl _ (us d.1) (0, 0) _ hD Tryd.underlying27 rfl (by rw [sd]; kernel_rfl) ?_))
  refine (rfind_c d A n c ss _ hn HM.out H1.out.st.pla H1.out.st.sl).mono ?_
  rintro e w2 ⟨rfl, hg2⟩
  have H2 := Lib.hid (H1.out.st.grow hg2)
  clear hg2 hB hD hcell
  rcases findE_cases ss d with hno | ⟨j, hj, hyes⟩
  · have Hg := Lib.hid (show getE ss d = (ByteArray.empty, 6) by unfold getE; rw [hno]; rfl)
    rw [hno]
    clear hno
    go_wp2_with fail
    go_ret2
    exact ⟨by rw [Hg.out]; rfl, H2.out.gro⟩
  · rw [HL.out] at hj
    have Hg := Lib.hid (show getE ss d = (ss.getD j ByteArray.empty, 0) by unfold getE; rw [hyes, if_neg (by omega)]; rfl)
    rw [hyes]
    clear hyes
    have t1 : decide ((j : Int) < 0) = false := by simp
    have b1 : (0 : Int) ≤ j := by omega
    have b2 : (j : Int) < n := by omega
    have hcell := H2.out.box.cell 0
    obtain ⟨g, o, rfl, -, -⟩ := H2.out.sl.2.2.2 (by omega)
    have hcc := Lib.hid H2.out.sl.1
    have hc2 := H2.out.sl.at j hj
    generalize ss.getD j ByteArray.empty = s at *
    go_wp2_with fail
    go_ret2
    exact ⟨by rw [Hg.out]; rfl, H2.out.gro⟩
end Go.Proofs.YtamllmoakgnjoaaDoor
