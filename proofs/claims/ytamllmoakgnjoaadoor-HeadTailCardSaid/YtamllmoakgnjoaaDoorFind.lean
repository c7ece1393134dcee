/- store.find and seedcornref42.Find: the place of the first item of a digest, or -1. -/
import Derived.Test.YtamllmoakgnjoaaDoorRStore
namespace Go.Proofs.YtamllmoakgnjoaaDoor
open Go.RowKit
def findE (ss : List ByteArray) (d : D) : Int := match ss.findIdx? (fun s => decide (digE s = d)) with | some j => (j : Int) | none => -1
theorem findE_at {ss : List ByteArray} {d : D} {j : Nat} (hj : j < ss.length) (hb : ∀ q, q < j → digE (ss.getD q ByteArray.empty) ≠ d) (h : digE (ss.getD j ByteArray.empty) = d) : findE ss d = (j : Int) := by
  have : ss.findIdx? (fun s => decide (digE s = d)) = some j := by
    rw [List.findIdx?_eq_some_iff_getElem]
    refine ⟨hj, ?_, fun q hq => ?_⟩
    · rw [List.getD_eq_getElem?_getD, List.getElem?_eq_getElem hj] at h
      simpa using h
    · have := hb q hq
      rw [List.getD_eq_getElem?_getD, List.getElem?_eq_getElem (by omega)] at this
      simpa using this
  unfold findE
  rw [this]
theorem findE_no {ss : List ByteArray} {d : D} (hb : ∀ q, q < ss.length → digE (ss.getD q ByteArray.empty) ≠ d) : findE ss d = -1 := by
  have : ss.findIdx? (fun s => decide (digE s = d)) = none := by
    rw [List.findIdx?_eq_none_iff]
    intro s hs
    obtain ⟨q, hq, rfl⟩ := List.getElem_of_mem hs
    have := hb q hq
    rw [List.getD_eq_getElem?_getD, List.getElem?_eq_getElem hq] at this
    simpa using this
  unfold findE
  rw [this]
theorem findE_cases (ss : List ByteArray) (d : D) : findE ss d = -1 ∨ ∃ j : Nat, j < ss.length ∧ findE ss d = (j : Int) := by
  unfold findE
  cases h : ss.findIdx? (fun s => decide (digE s = d)) with
  | none => exact .inl rfl
  | some j =>
    rw [List.findIdx?_eq_some_iff_getElem] at h
    obtain ⟨hj, -⟩ := h
    exact .inr ⟨j, hj, rfl⟩
set_option maxHeartbeats 1000000 in
theorem fd1_c (d : D) (b : Nat) (s : ByteArray) (w : World) (hm : s.size ≤ 1000000) (hP : Places w) (hb : Blk w b 27 (us d.1)) :
    Calls Tryd.prog 90 #[.string s, .pointer (some ⟨b, 0, none⟩)] w fun e w' => e = .returned (.bool (decide (digE s = d))) ∧ Grow w w' := by
  have HP := Lib.hid hP
  have HB := Lib.hid hb
  have sd := d.sz
  have m1 := Lib.hid (fun W (hp : Places W) => of_s s W hm hp)
  generalize digE s = x at *
  obtain ⟨bb, hbb⟩ : ∃ bb, bb = decide (x = d) := ⟨_, rfl⟩
  have Hbb := Lib.hid hbb
  rw [← hbb]
  clear hP hb hbb
  go_enter Tryd.func90, Tryd.ntmps90
  go_upto_region 1 with (fail)
  refine wp_region_all (fun W => Grow w W) (by kernel_rfl) (by kernel_rfl) (Grow.refl _).drew ?_
  (refine quiet_ex rfl ?_; apply Exists.intro; refine ⟨fun W hW => ?_, ?_⟩)
  · go_simp; try with_reducible rfl
  simp only [Act.put, List.setIfInBounds_toArray, List.set_cons_zero, List.set_cons_succ]
  (refine quiet_at rfl ⟨.agg (us x.1), fun W hW => ?_, ?_⟩)
  · go_simp; exact (m1.out _ (HP.out.grow hW)).mono (fun e w' h => ⟨h.1, hW.tr h.2⟩)
  simp only [Act.put, List.setIfInBounds_toArray, List.set_cons_zero, List.set_cons_succ]
  refine quiet_load_row rfl 27 (.tmp 1) rfl (b) rfl _ (us d.1) (0, 0) _ (fun W hW => HB.out.grow hW) Tryd.underlying27 rfl (by rw [sd]; kernel_rfl) ?_
  simp only [Act.put, List.setIfInBounds_toArray, List.set_cons_zero, List.set_cons_succ]
  (refine quiet_ex rfl ?_; apply Exists.intro; refine ⟨fun W hW => ?_, ?_⟩)
  · have c := eqin_D x d W; rw [← Hbb.out] at c; go_simp; try with_reducible rfl
  simp only [Act.put, List.setIfInBounds_toArray, List.set_cons_zero, List.set_cons_succ]
  (refine quiet_ex rfl ?_; apply Exists.intro; refine ⟨fun W hW => ?_, ?_⟩)
  · go_simp; try with_reducible rfl
  simp only [Act.put, List.setIfInBounds_toArray, List.set_cons_zero, List.set_cons_succ]
  refine wpQuiet_nil ?_
  intro w4 h4
  have H4 := Lib.hid h4
  clear h4
  go_wp2
  go_ret
  exact ⟨rfl, H4.out⟩
end Go.Proofs.YtamllmoakgnjoaaDoor
