/- seedcornref42.Few: few items, of few bytes each? -/
import Derived.Test.YtamllmoakgnjoaaDoorHead
namespace Go.Proofs.YtamllmoakgnjoaaDoor
open Go.RowKit
def fewE (ss : List ByteArray) (most bytes : Nat) : Bool := decide (ss.length ≤ most) && ss.all fun s => decide (s.size ≤ bytes)
theorem fewE_spec {ss : List ByteArray} {most bytes : Nat} (h : fewE ss most bytes = true) : ss.length ≤ most ∧ ∀ s ∈ ss, s.size ≤ bytes := by
  unfold fewE at h
  simp only [Bool.and_eq_true, decide_eq_true_eq, List.all_eq_true] at h
  exact h
theorem fewE_bad {ss : List ByteArray} {most bytes j : Nat} (hj : j < ss.length) (h : bytes < (ss.getD j ByteArray.empty).size) : fewE ss most bytes = false := by
  cases hf : fewE ss most bytes with
  | false => rfl
  | true =>
    have := (fewE_spec hf).2 (ss.getD j ByteArray.empty) (by rw [List.getD_eq_getElem?_getD, List.getElem?_eq_getElem hj]; exact List.getElem_mem hj)
    omega
theorem fewE_good {ss : List ByteArray} {most bytes : Nat} (h : ∀ j, j < ss.length → (ss.getD j ByteArray.empty).size ≤ bytes) (hl : ss.length ≤ most) : fewE ss most bytes = true := by
  unfold fewE
  simp only [Bool.and_eq_true, decide_eq_true_eq, List.all_eq_true]
  refine ⟨hl, fun s hs => ?_⟩
  obtain ⟨j, hj, rfl⟩ := List.getElem_of_mem hs
  have := h j hj
  rw [List.getD_eq_getElem?_getD, List.getElem?_eq_getElem hj] at this
  exact this
theorem fewE_long {ss : List ByteArray} {most bytes : Nat} (h : most < ss.length) : fewE ss most bytes = false := by
  unfold fewE
  rw [decide_eq_false (by omega)]; rfl
set_option maxRecDepth 100000 in
set_option maxHeartbeats 2000000 in
theorem rfew_c (A : Option Addr) (n c : Nat) (ss : List ByteArray) (most bytes : Nat) (w : World) (hm : most ≤ 1000) (hb : bytes ≤ 1000000) (hsz : ∀ s ∈ ss, s.size ≤ maxLen) (hP : Places w) (hs : SlS w A n c ss) :
    Calls Tryd.prog 37 #[.agg #[.slice A n c], .int .i64 (most : Int), .int .i64 (bytes : Int)] w fun e w' => e = .returned (.bool (fewE ss most bytes)) ∧ Grow w w' := by
  have HS0 := Lib.hid (StAt.new hs hP)
  have HL := Lib.hid hs.2.2.1
  have hnm : n ≤ maxLen := Nat.le_trans hs.1 hs.2.1
  have HZ := Lib.hid (fun j (hj : j < ss.length) => (show (ss.getD j ByteArray.empty).size ≤ maxLen by
    rw [List.getD_eq_getElem?_getD, List.getElem?_eq_getElem hj]; exact hsz _ (List.getElem_mem hj)))
  clear hs hP hsz
  unfold maxLen at hnm
  go_enter Tryd.func37, Tryd.ntmps37
  go_upto_region 1 with (fail)
  refine wp_gen (fun W => StAt w W A n c ss) HS0.out ?_
  clear HS0
  intro w1 h1
  have hcell := h1.box.cell 0
  have H1 := Lib.hid h1
  clear h1
  go_wp2_with fail
  go_loop [7] (fun i => ∃ j : Nat, j ≤ n ∧ j ≤ most + 1 ∧ i = .int .i64 j ∧ ∀ q, q < j → (ss.getD q ByteArray.empty).size ≤ bytes) (fun i => n - (intOf i).toNat)
  case atStart => exact ⟨0, by omega, by omega, rfl, fun q hq => by omega⟩
  case round =>
    obtain ⟨j, hj, hj2, rfl, hE⟩ := hrel
    have HE := Lib.hid hE
    clear hE
    by_cases hlt : j < n
    · have t1 : decide (j < n) = true := by simpa using hlt
      have t1' : decide ((j : Int) < (n : Int)) = true := by simpa using hlt
      by_cases hle : j ≤ most
      · have t2 : decide (j ≤ most) = true := by simpa using hle
        have t2' : decide ((j : Int) ≤ (most : Int)) = true := by simpa using hle
        have b1 : (0 : Int) ≤ j := by omega
        have b2 : (j : Int) < n := by omega
        obtain ⟨g, o, rfl, -, -⟩ := H1.out.sl.2.2.2 (by omega)
        have hcc := Lib.hid H1.out.sl.1
        have hel := H1.out.sl.at j hlt
        have Hbad := Lib.hid (fun h => fewE_bad (ss := ss) (most := most) (bytes := bytes) (j := j) (by rw [HL.out]; exact hlt) h)
        have Hsn := Lib.hid (fun (h : (ss.getD j ByteArray.empty).size ≤ bytes) q (hq : q < j + 1) => (show (ss.getD q ByteArray.empty).size ≤ bytes by
          by_cases e : q = j
          · rw [e]; exact h
          · exact HE.out q (by omega)))
        have hzz := HZ.out j (by rw [HL.out]; exact hlt)
        unfold maxLen at hzz
        generalize ss.getD j ByteArray.empty = s at *
        by_cases hbig : bytes < s.size
        · have t3 : decide (bytes < s.size) = true := by simpa using hbig
          have t3' : decide ((bytes : Int) < (s.size : Int)) = true := by simpa using hbig
          have Hf := Lib.hid (Hbad.out hbig)
          go_wp2
          go_ret
          exact ⟨by rw [Hf.out]; rfl, H1.out.gro⟩
        · have t3 : decide (bytes < s.size) = false := by simpa using hbig
          have t3' : decide ((bytes : Int) < (s.size : Int)) = false := by simpa using hbig
          go_wp2
          go_round
          case rel => exact ⟨j + 1, by omega, by omega, by go_num, Hsn.out (by omega)⟩
          case measure => simp [intOf]; omega
      · have t2 : decide (j ≤ most) = false := by simpa using hle
        have t2' : decide ((j : Int) ≤ (most : Int)) = false := by simpa using hle
        have t4 : decide (n ≤ most) = false := by simp; omega
        have t4' : decide ((n : Int) ≤ (most : Int)) = false := by simp; omega
        have Hf := Lib.hid (fewE_long (ss := ss) (most := most) (bytes := bytes) (by rw [HL.out]; omega))
        go_wp2
        go_ret
        exact ⟨by rw [Hf.out]; rfl, H1.out.gro⟩
    · have e : j = n := by omega
      subst e
      have t1 : decide ((j : Int) < (j : Int)) = false := by simp
      by_cases hle : j ≤ most
      · have t4 : decide (j ≤ most) = true := by simpa using hle
        have t4' : decide ((j : Int) ≤ (most : Int)) = true := by simpa using hle
        have Hf := Lib.hid (fewE_good (ss := ss) (most := most) (bytes := bytes) (fun q hq => HE.out q (by rw [HL.out] at hq; exact hq)) (by rw [HL.out]; exact hle))
        go_wp2
        go_ret
        exact ⟨by rw [Hf.out]; rfl, H1.out.gro⟩
      · have t4 : decide (j ≤ most) = false := by simpa using hle
        have t4' : decide ((j : Int) ≤ (most : Int)) = false := by simpa using hle
        have Hf := Lib.hid (fewE_long (ss := ss) (most := most) (bytes := bytes) (by rw [HL.out]; omega))
        go_wp2
        go_ret
        exact ⟨by rw [Hf.out]; rfl, H1.out.gro⟩
end Go.Proofs.YtamllmoakgnjoaaDoor
