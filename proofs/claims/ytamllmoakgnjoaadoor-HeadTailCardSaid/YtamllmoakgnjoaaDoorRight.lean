/- seedcornref42.Right: may a store be? -/
import Derived.Test.YtamllmoakgnjoaaDoorFew
namespace Go.Proofs.YtamllmoakgnjoaaDoor
open Go.RowKit
def rightE (ss : List ByteArray) : Bool := decide (ss.length ≤ 1000) && decide (digsE ss).Nodup
theorem nodup_of {l : List D} (h : ∀ i k, i < l.length → k < i → l.getD i D.zero ≠ l.getD k D.zero) : l.Nodup := by
  unfold List.Nodup
  rw [List.pairwise_iff_getElem]
  intro i j hi hj hij e
  have := h j i hj hij
  apply this
  simp only [List.getD_eq_getElem?_getD, List.getElem?_eq_getElem hi, List.getElem?_eq_getElem hj, Option.getD_some]
  exact e.symm
theorem not_nodup {l : List D} {i k : Nat} (hi : i < l.length) (hk : k < i) (h : l.getD i D.zero = l.getD k D.zero) : ¬ l.Nodup := by
  intro hn
  unfold List.Nodup at hn
  rw [List.pairwise_iff_getElem] at hn
  apply hn k i (by omega) hi hk
  simp only [List.getD_eq_getElem?_getD, List.getElem?_eq_getElem hi, List.getElem?_eq_getElem (show k < l.length by omega), Option.getD_some] at h
  exact h.symm
set_option maxRecDepth 100000 in
set_option maxHeartbeats 4000000 in
theorem rright_c (A : Option Addr) (n c : Nat) (ss : List ByteArray) (w : World) (hn : n ≤ 1000) (hsm : small ss) (hP : Places w) (hs : SlS w A n c ss) :
    Calls Tryd.prog 43 #[.agg #[.slice A n c]] w fun e w' => e = .returned (.bool (rightE ss)) ∧ Grow w w' := by
  have HS0 := Lib.hid (StAt.new hs hP)
  have HL := Lib.hid hs.2.2.1
  have HM := Lib.hid hsm
  have hre : rightE ss = decide (digsE ss).Nodup := by unfold rightE; rw [decide_eq_true (by rw [hs.2.2.1]; exact hn), Bool.true_and]
  have Hre := Lib.hid hre
  clear hs hP hsm hre
  go_enter Tryd.func43, Tryd.ntmps43
  go_upto_region 1 with (fail)
  refine wp_gen (fun W => StAt w W A n c ss) HS0.out ?_
  clear HS0
  intro w1 h1
  have hcell := h1.box.cell 0
  have hB := h1.box
  have H1 := Lib.hid h1
  clear h1
  have t1 : decide (1000 < n) = false := by simp; omega
  have t1' : decide ((1000 : Int) < (n : Int)) = false := by simp; omega
  go_wp2_with (refine wpList_load_row_g rfl TSt (.tmp 1) rfl w.heap.size rfl _ #[.slice A n c] (0, 0) _ hB Tryd.underlying24 rfl (st_row A n c) ?_)
  refine (rdigests_c A n c ss _ (by omega) HM.out H1.out.pla H1.out.sl).mono ?_
  rintro e w2 ⟨v, rfl, ho, hg2⟩
  obtain ⟨A2, c2, rfl, hs2⟩ := SlD.of_own ho
  have HS2 := Lib.hid hs2
  have G2 := Lib.hid (H1.out.gro.tr hg2)
  clear ho hg2 hs2 hcell hB t1 t1'
  have hll := HS2.out.2.2.1
  generalize digsE ss = l at *
  have Hll := Lib.hid hll
  clear hll
  go_wp2_with fail
  go_loopw [4, 5] (fun i _ wr => ∃ j : Nat, j ≤ n ∧ i = .int .i64 j ∧ (∀ p q, p < j → q < p → l.getD p D.zero ≠ l.getD q D.zero) ∧ Grow w2 wr) (fun i _ _ => n - (intOf i).toNat)
  case atStart => exact ⟨0, by omega, rfl, fun p q h => by omega, Grow.refl _⟩
  case round =>
    obtain ⟨j, hj, rfl, hE, hN⟩ := hrel
    have HE := Lib.hid hE
    have HN := Lib.hid hN
    clear hE hN
    by_cases hlt : j < n
    · have t1 : decide (j < n) = true := by simpa using hlt
      have t1' : decide ((j : Int) < (n : Int)) = true := by simpa using hlt
      obtain ⟨g, o, rfl, -, -⟩ := HS2.out.2.2.2 (by omega)
      have hcc := Lib.hid HS2.out.1
      go_wp2_with fail
      clear t1 t1'
      obtain ⟨wo, hwo⟩ : ∃ wo : World, wo = wr := ⟨_, rfl⟩
      subst hwo
      go_loopw [5] (fun i wr => ∃ k : Nat, k ≤ j ∧ i = .int .i64 k ∧ (∀ q, q < k → l.getD j D.zero ≠ l.getD q D.zero) ∧ Grow w2 wr) (fun i _ => j - (intOf i).toNat)
      case atStart => exact ⟨0, by omega, rfl, fun q h => by omega, HN.out⟩
      case round =>
        obtain ⟨k, hk, rfl, hF, hM⟩ := hrel
        have HF := Lib.hid hF
        have HM2 := Lib.hid hM
        clear hF hM
        by_cases hlk : k < j
        · have t2 : decide (k < j) = true := by simpa using hlk
          have t2' : decide ((k : Int) < (j : Int)) = true := by simpa using hlk
          have b1 : (0 : Int) ≤ j := by omega
          have b2 : (j : Int) < n := by omega
          have b3 : (0 : Int) ≤ k := by omega
          have b4 : (k : Int) < n := by omega
          have fa := Lib.hid (fun W (hW : Grow w2 W) => (HS2.out.grow hW).at j hlt)
          have fb := Lib.hid (fun W (hW : Grow w2 W) => (HS2.out.grow hW).at k (by omega))
          have Hsn := Lib.hid (fun (h : l.getD j D.zero ≠ l.getD k D.zero) q (hq : q < k + 1) => (show l.getD j D.zero ≠ l.getD q D.zero by
            by_cases e : q = k
            · rw [e]; exact h
            · exact HF.out q (by omega)))
          have Hno := Lib.hid (fun (h : l.getD j D.zero = l.getD k D.zero) => not_nodup (by rw [Hll.out]; exact hlt) hlk h)
          generalize l.getD j D.zero = x at *
          generalize l.getD k D.zero = y at *
          obtain ⟨bb, hbb⟩ : ∃ bb, bb = decide (x = y) := ⟨_, rfl⟩
          have Hbb := Lib.hid hbb
          clear hbb
          go_upto_region 10 with (fail)
          refine wp_region_all (fun W => Grow w2 W) (by kernel_rfl) (by kernel_rfl) HM2.out.drew ?_
          (refine quiet_ex rfl ?_; apply Exists.intro; refine ⟨fun W hW => ?_, ?_⟩)
          · go_simp; try with_reducible rfl
          simp only [Act.put, List.setIfInBounds_toArray, List.set_cons_zero, List.set_cons_succ]
          (refine quiet_ex rfl ?_; apply Exists.intro; refine ⟨fun W hW => ?_, ?_⟩)
          · go_simp; try with_reducible rfl
          simp only [Act.put, List.setIfInBounds_toArray, List.set_cons_zero, List.set_cons_succ]
          (refine quiet_ex rfl ?_; apply Exists.intro; refine ⟨fun W hW => ?_, ?_⟩)
          · go_simp; try with_reducible rfl
          simp only [Act.put, List.setIfInBounds_toArray, List.set_cons_zero, List.set_cons_succ]
          refine quiet_load_D rfl 27 (.tmp 25) rfl g (o + j * 4) rfl x (fun W hW => fa.out W hW) _ Tryd.underlying27 hi_D ?_
          simp only [Act.put, List.setIfInBounds_toArray, List.set_cons_zero, List.set_cons_succ]
          (refine quiet_ex rfl ?_; apply Exists.intro; refine ⟨fun W hW => ?_, ?_⟩)
          · go_simp; try with_reducible rfl
          simp only [Act.put, List.setIfInBounds_toArray, List.set_cons_zero, List.set_cons_succ]
          (refine quiet_ex rfl ?_; apply Exists.intro; refine ⟨fun W hW => ?_, ?_⟩)
          · go_simp; try with_reducible rfl
          simp only [Act.put, List.setIfInBounds_toArray, List.set_cons_zero, List.set_cons_succ]
          (refine quiet_ex rfl ?_; apply Exists.intro; refine ⟨fun W hW => ?_, ?_⟩)
          · go_simp; try with_reducible rfl
          simp only [Act.put, List.setIfInBounds_toArray, List.set_cons_zero, List.set_cons_succ]
          refine quiet_load_D rfl 27 (.tmp 29) rfl g (o + k * 4) rfl y (fun W hW => fb.out W hW) _ Tryd.underlying27 hi_D ?_
          simp only [Act.put, List.setIfInBounds_toArray, List.set_cons_zero, List.set_cons_succ]
          (refine quiet_ex rfl ?_; apply Exists.intro; refine ⟨fun W hW => ?_, ?_⟩)
          · have c := eqin_D x y W; rw [← Hbb.out] at c; go_simp; try with_reducible rfl
          simp only [Act.put, List.setIfInBounds_toArray, List.set_cons_zero, List.set_cons_succ]
          refine wpQuiet_nil ?_
          intro w5 h5
          have H5 := Lib.hid h5
          clear h5
          cases bb
          · go_wp2_with fail
            go_roundw
            case rel => exact ⟨k + 1, by omega, by go_num, Hsn.out (of_decide_eq_false Hbb.out.symm), H5.out⟩
            case measure => simp [intOf]; omega
          · have Hf := Lib.hid (decide_eq_false (Hno.out (of_decide_eq_true Hbb.out.symm)))
            go_wp2_with fail
            go_ret
            exact ⟨by rw [Hre.out, Hf.out]; rfl, G2.out.tr H5.out⟩
        · have e : k = j := by omega
          subst e
          have t2 : decide ((k : Int) < (k : Int)) = false := by simp
          go_wp2_with fail
          go_roundw
          case rel =>
            refine ⟨k + 1, by omega, by go_num, fun p q h1 h2 => ?_, HM2.out⟩
            by_cases e : p = k
            · rw [e]; exact HF.out q (by omega)
            · exact HE.out p q (by omega) h2
          case measure => simp [intOf]; omega
    · have e : j = n := by omega
      subst e
      have t1 : decide ((j : Int) < (j : Int)) = false := by simp
      have Hf := Lib.hid (decide_eq_true (nodup_of (l := l) (fun i k h1 h2 => HE.out i k (by rw [Hll.out] at h1; exact h1) h2)))
      go_wp2_with fail
      go_ret
      exact ⟨by rw [Hre.out, Hf.out]; rfl, G2.out.tr HN.out⟩
end Go.Proofs.YtamllmoakgnjoaaDoor
