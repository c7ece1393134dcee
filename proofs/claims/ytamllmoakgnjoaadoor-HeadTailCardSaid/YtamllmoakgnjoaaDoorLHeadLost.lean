/- The walk of the law HeadLost: it answers true. -/
import Derived.Test.YtamllmoakgnjoaaDoorAlive43
import Derived.Test.YtamllmoakgnjoaaDoorRLost
import Derived.Test.YtamllmoakgnjoaaDoorRight
namespace Go.Proofs.YtamllmoakgnjoaaDoor
open Go.RowKit
theorem fewE_small {ss : List ByteArray} {most bytes : Nat} (h : fewE ss most bytes = true) (hb : bytes ≤ 1000000) : small ss := fun s hs => Nat.le_trans ((fewE_spec h).2 s hs) hb
set_option maxRecDepth 100000 in
set_option maxHeartbeats 2000000 in
theorem few43_c (A : Option Addr) (n c : Nat) (ss : List ByteArray) (w : World) (hsz : ∀ s ∈ ss, s.size ≤ maxLen) (hP : Places w) (hs : SlS w A n c ss) :
    Calls Tryd.prog 22 #[.agg #[.slice A n c]] w fun e w' => e = .returned (.bool (fewE ss 20 300 && rightE ss)) ∧ Grow w w' := by
  have HS0 := Lib.hid (StAt.new hs hP)
  have HL := Lib.hid hs.2.2.1
  have f1 := Lib.hid (fun W (hW : StAt w W A n c ss) => rfew_c A n c ss 20 300 W (by omega) (by omega) hsz hW.pla hW.sl)
  have f2 := Lib.hid (fun W (hW : StAt w W A n c ss) (h : fewE ss 20 300 = true) => rright_c A n c ss W (by have := (fewE_spec h).1; rw [hs.2.2.1] at this; omega) (fewE_small h (by omega)) hW.pla hW.sl)
  clear hs hP hsz
  generalize hb : fewE ss 20 300 = b at *
  generalize hr : rightE ss = r at *
  clear hb hr
  go_enter Tryd.func22, Tryd.ntmps22
  go_upto_region 1 with (fail)
  refine wp_gen (fun W => StAt w W A n c ss) HS0.out ?_
  clear HS0
  intro w1 h1
  have hB := h1.box
  have H1 := Lib.hid h1
  clear h1
  go_wp2_with (refine wpList_load_row_g rfl TSt (.tmp 1) rfl w.heap.size rfl _ #[.slice A n c] (0, 0) _ hB Tryd.underlying24 rfl (st_row A n c) ?_)
  refine (f1.out _ H1.out).mono ?_
  rintro e w2 ⟨rfl, hg2⟩
  have hB2 := hB.grow hg2
  have H2 := Lib.hid (H1.out.grow hg2)
  clear hg2 hB
  cases b
  · go_wp2_with fail
    go_ret
    exact ⟨rfl, H2.out.gro⟩
  · go_wp2_with (refine wpList_load_row_g rfl TSt (.tmp 1) rfl w.heap.size rfl _ #[.slice A n c] (0, 0) _ hB2 Tryd.underlying24 rfl (st_row A n c) ?_)
    refine (f2.out _ H2.out trivial).mono ?_
    rintro e w3 ⟨rfl, hg3⟩
    have H3 := Lib.hid (H2.out.grow hg3)
    clear hg3
    go_wp2_with fail
    go_ret
    exact ⟨by rw [Bool.true_and]; rfl, H3.out.gro⟩
set_option maxRecDepth 100000 in
set_option maxHeartbeats 4000000 in
theorem lheadLost_walk (A : Option Addr) (n c : Nat) (ss : List ByteArray) (k : Int) (r : D) (w : World) (hP : Places w) (hs : SlS w A n c ss) (hsz : ∀ s ∈ ss, s.size ≤ maxLen) (hk1 : -9223372036854775808 ≤ k) (hk2 : k ≤ 9223372036854775807) :
    Calls Tryd.prog 3 #[.agg #[.slice A n c], .agg (hdC k r)] w fun e w' => e = .returned (.bool true) ∧ Grow w w' := by
  have HS0 := Lib.hid (LoAt.new hs hP : LoAt w _ A n c ss k r)
  have HL := Lib.hid hs.2.2.1
  have HK := Lib.hid (And.intro hk1 hk2)
  have HZ := Lib.hid hsz
  clear hs hP hk1 hk2 hsz
  go_enter Tryd.func3, Tryd.ntmps3
  go_upto_region 1 with (fail)
  refine wp_gen (fun W => LoAt w W A n c ss k r) HS0.out ?_
  clear HS0
  intro w1 h1
  have H1 := Lib.hid h1
  clear h1
  go_wp2_with fail
  refine (alive43_c _ H1.out.st.pla).mono ?_
  rintro e w2 ⟨rfl, hg2⟩
  have H2 := Lib.hid (H1.out.grow hg2)
  have hB := H2.out.st.box
  clear hg2
  go_wp2_with (refine wpList_load_row_g rfl TSt (.tmp 2) rfl w.heap.size rfl _ #[.slice A n c] (0, 0) _ hB Tryd.underlying24 rfl (st_row A n c) ?_)
  refine (few43_c A n c ss _ HZ.out H2.out.st.pla H2.out.st.sl).mono ?_
  rintro e w3 ⟨rfl, hg3⟩
  have H3 := Lib.hid (H2.out.grow hg3)
  clear hg3 hB
  by_cases hf : fewE ss 20 300 = true
  · have hsm := fewE_small hf (by omega)
    have hn : n ≤ 20 := by have := (fewE_spec hf).1; rw [HL.out] at this; exact this
    rw [hf, Bool.true_and]
    generalize rightE ss = b at *
    cases b
    · clear hf hsm
      go_wp2_with fail
      go_ret
      exact ⟨rfl, H3.out.st.gro⟩
    · have m1 := Lib.hid (fun W (hW : LoAt w W A n c ss k r) => lost_c A n c ss k r W HK.out.1 HK.out.2 (by omega) hsm hW.st.pla hW.st.sl)
      have m2 := Lib.hid (fun W (hW : LoAt w W A n c ss k r) => rlost_c A n c ss k r W HK.out.1 HK.out.2 (by omega) hsm hW.st.pla hW.st.sl)
      obtain ⟨e1, he1⟩ : ∃ e, e = lostE ss k r := ⟨_, rfl⟩
      obtain ⟨e2, he2⟩ : ∃ e, e = lostE ss k r := ⟨_, rfl⟩
      rw [← he1] at m1
      rw [← he2] at m2
      have t := Lib.hid (show (e1 == e2) = true by rw [he1, he2]; simp)
      clear hf hsm he1 he2
      go_upto_region 5 with (fail)
      refine wp_region_all (fun W => LoAt w W A n c ss k r) (by kernel_rfl) (by kernel_rfl) (H3.out.grow (Grow.refl _).drew) ?_
      have tt := t.out
      refine quiet_load_row rfl TSt (.tmp 2) rfl w.heap.size rfl _ #[.slice A n c] (0, 0) _ (fun W hW => hW.st.box) Tryd.underlying24 rfl (st_row A n c) ?_
      simp only [Act.put, List.setIfInBounds_toArray, List.set_cons_zero, List.set_cons_succ]
      refine quiet_load_row rfl THd (.tmp 3) rfl (w.heap.size + 1) rfl _ (hdC k r) (0, 0) _ (fun W hW => hW.hd) Tryd.underlying29 rfl (hd_row k r) ?_
      simp only [Act.put, List.setIfInBounds_toArray, List.set_cons_zero, List.set_cons_succ]
      (refine quiet_at rfl ⟨.int .i64 e1, fun W hW => ?_, ?_⟩)
      · go_simp; exact (m1.out _ hW).mono (fun e w' h => ⟨h.1, hW.grow h.2⟩)
      simp only [Act.put, List.setIfInBounds_toArray, List.set_cons_zero, List.set_cons_succ]
      refine quiet_load_row rfl TSt (.tmp 2) rfl w.heap.size rfl _ #[.slice A n c] (0, 0) _ (fun W hW => hW.st.box) Tryd.underlying24 rfl (st_row A n c) ?_
      simp only [Act.put, List.setIfInBounds_toArray, List.set_cons_zero, List.set_cons_succ]
      refine quiet_load_row rfl THd (.tmp 3) rfl (w.heap.size + 1) rfl _ (hdC k r) (0, 0) _ (fun W hW => hW.hd) Tryd.underlying29 rfl (hd_row k r) ?_
      simp only [Act.put, List.setIfInBounds_toArray, List.set_cons_zero, List.set_cons_succ]
      (refine quiet_at rfl ⟨.int .i64 e2, fun W hW => ?_, ?_⟩)
      · go_simp; exact (m2.out _ hW).mono (fun e w' h => ⟨h.1, hW.grow h.2⟩)
      simp only [Act.put, List.setIfInBounds_toArray, List.set_cons_zero, List.set_cons_succ]
      (refine quiet_ex rfl ?_; apply Exists.intro; refine ⟨fun W hW => ?_, ?_⟩)
      · go_simp; try with_reducible rfl
      simp only [Act.put, List.setIfInBounds_toArray, List.set_cons_zero, List.set_cons_succ]
      (refine quiet_ex rfl ?_; apply Exists.intro; refine ⟨fun W hW => ?_, ?_⟩)
      · go_simp; try with_reducible rfl
      simp only [Act.put, List.setIfInBounds_toArray, List.set_cons_zero, List.set_cons_succ]
      refine wpQuiet_nil ?_
      intro w4 h4
      have G4 := Lib.hid h4.st.gro
      clear h4
      go_wp2
      go_ret
      exact ⟨rfl, G4.out⟩
  · have hf' : fewE ss 20 300 = false := by cases h : fewE ss 20 300 <;> simp_all
    rw [hf', Bool.false_and]
    clear hf hf'
    go_wp2_with fail
    go_ret
    exact ⟨rfl, H3.out.st.gro⟩
end Go.Proofs.YtamllmoakgnjoaaDoor
