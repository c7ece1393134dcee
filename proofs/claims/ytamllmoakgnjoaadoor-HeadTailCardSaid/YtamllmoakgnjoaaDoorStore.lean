/- The digests of a store's items, of the program and of the document. -/
import Derived.Test.YtamllmoakgnjoaaDoorRoot
namespace Go.Proofs.YtamllmoakgnjoaaDoor
open Go.RowKit
abbrev TSt := 24
def digE (s : ByteArray) : D := ofE s.data.toList
def digsE (ss : List ByteArray) : List D := ss.map digE
theorem digsE_take_succ (ss : List ByteArray) (j : Nat) (hj : j < ss.length) : digsE (ss.take (j + 1)) = digsE (ss.take j) ++ [digE (ss.getD j ByteArray.empty)] := by
  unfold digsE
  rw [List.take_succ_eq_append_getElem hj, List.map_append]
  simp [List.getD, hj]
theorem digsE_length (ss : List ByteArray) : (digsE ss).length = ss.length := by simp [digsE]
theorem digsE_getD (ss : List ByteArray) (j : Nat) (hj : j < ss.length) : (digsE ss).getD j D.zero = digE (ss.getD j ByteArray.empty) := by simp [digsE, List.getD, hj]
def small (ss : List ByteArray) : Prop := ∀ s ∈ ss, s.size ≤ 1000000
theorem small.at {ss : List ByteArray} (h : small ss) (j : Nat) (hj : j < ss.length) : (ss.getD j ByteArray.empty).size ≤ 1000000 := by
  rw [List.getD_eq_getElem?_getD, List.getElem?_eq_getElem hj]
  exact h _ (List.getElem_mem hj)
theorem of_s (s : ByteArray) (w : World) (hm : s.size ≤ 1000000) (hP : Places w) :
    Calls Tryd.prog 64 #[.string s] w fun e w' => e = .returned (.agg (us (digE s).1)) ∧ Grow w w' := of_c s.data.toList w (by rw [Array.length_toList]; exact hm) hP
theorem rof_s (s : ByteArray) (w : World) (hm : s.size ≤ 1000000) :
    Calls Tryd.prog 62 #[.string s] w fun e w' => e = .returned (.agg (us (digE s).1)) ∧ Grow w w' := rof_c s.data.toList w (by rw [Array.length_toList]; exact hm)
structure StAt (w0 w : World) (A : Option Addr) (n c : Nat) (ss : List ByteArray) : Prop where
  box : Blk w w0.heap.size TSt #[.slice A n c]
  sl : SlS w A n c ss
  gro : Grow w0 w
  pla : Places w
theorem StAt.grow {w0 w w' : World} {A : Option Addr} {n c : Nat} {ss : List ByteArray} (h : StAt w0 w A n c ss) (hg : Grow w w') : StAt w0 w' A n c ss := ⟨h.box.grow hg, h.sl.grow hg, h.gro.tr hg, h.pla.grow hg⟩
theorem StAt.new {w : World} {A : Option Addr} {n c : Nat} {ss : List ByteArray} (hs : SlS w A n c ss) (hP : Places w) : StAt w (w.alloc (.cells #[.slice A n c] TSt)) A n c ss :=
  have hg : Grow w (w.alloc (.cells #[.slice A n c] TSt)) := (Grow.refl _).alloc (Nat.le_refl _) _
  ⟨Blk.new _ _ _, hs.grow hg, hg, hP.grow hg⟩
structure DgAt (w0 w1 w : World) (A : Option Addr) (n c : Nat) (ss : List ByteArray) (v : Value) (l : List D) : Prop where
  st : StAt w0 w A n c ss
  own : w.ownsRow w1.heap.size 27 4 v l.length (dcells l)
  gro : Grow w1 w
set_option maxRecDepth 100000 in
set_option maxHeartbeats 2000000 in
theorem digests_c (A : Option Addr) (n c : Nat) (ss : List ByteArray) (w : World) (hn : n ≤ 1000000) (hsm : small ss) (hP : Places w) (hs : SlS w A n c ss) :
    Calls Tryd.prog 73 #[.agg #[.slice A n c]] w fun e w' => ∃ v, e = .returned v ∧ w'.ownsRow w.heap.size 27 4 v n (dcells (digsE ss)) ∧ Grow w w' := by
  have HS0 := Lib.hid (StAt.new hs hP)
  have hmk := fun W => run_make_const (P := Tryd.prog) 38 27 _ 4 16 Tryd.underlying38 info_D 0 n (by omega) (by omega) (by omega) W
  simp only [Int.cast_ofNat_Int] at hmk
  have HM := Lib.hid hsm
  have HL := Lib.hid hs.2.2.1
  clear hs hP hsm
  go_enter Tryd.func73, Tryd.ntmps73
  go_upto_region 1 with (fail)
  refine wp_gen (fun W => StAt w W A n c ss) HS0.out ?_
  clear HS0
  intro w1 h1
  have hcell := h1.box.cell 0
  have H1 := Lib.hid h1
  clear h1
  go_upto_region 2 with (fail)
  clear hmk hcell
  have hown0 : (w1.alloc (.cells (madeCells #[Value.int .u32 0, Value.int .u32 0, Value.int .u32 0, Value.int .u32 0] (n * 4)) 27)).ownsRow w1.heap.size 27 4 (.slice (some ⟨w1.heap.size, 0, none⟩) 0 n) 0 [] :=
    World.ownsRow_made w1 _ n (Nat.le_refl _) (by simp only [maxLen]; omega) (by simp [madeCells])
  have hga : Grow w1 (w1.alloc (.cells (madeCells #[Value.int .u32 0, Value.int .u32 0, Value.int .u32 0, Value.int .u32 0] (n * 4)) 27)) := (Grow.refl _).alloc (Nat.le_refl _) _
  refine wp_gen (fun W => DgAt w w1 W A n c ss (.slice (some ⟨w1.heap.size, 0, none⟩) 0 n) []) ⟨H1.out.grow hga, hown0, hga⟩ ?_
  clear hown0 hga
  intro w2 h2
  have hcell := h2.st.box.cell 0
  have H2 := Lib.hid h2
  clear h2
  generalize Value.slice (some ⟨w1.heap.size, 0, none⟩) 0 n = v0 at *
  go_wp2_with fail
  clear hcell
  go_loopw [3, 13] (fun v i wr => ∃ j : Nat, j ≤ n ∧ i = .int .i64 j ∧ DgAt w w1 wr A n c ss v (digsE (ss.take j))) (fun _ i _ => n - (intOf i).toNat)
  case atStart => exact ⟨0, by omega, rfl, by rw [List.take_zero]; exact H2.out⟩
  case round =>
    obtain ⟨j, hj, rfl, hN⟩ := hrel
    have HN := Lib.hid hN
    clear hN H2
    by_cases hlt : j < n
    · have hj1 : decide ((j : Int) < (n : Int)) = true := by simp; omega
      have b1 : (0 : Int) ≤ j := by omega
      have b2 : (j : Int) < n := by omega
      obtain ⟨g, o, rfl, -, -⟩ := HN.out.st.sl.2.2.2 (by omega)
      have hcc := Lib.hid HN.out.st.sl.1
      have hcell := HN.out.st.sl.at j hlt
      have Hsucc := Lib.hid (digsE_take_succ ss j (by rw [HL.out]; exact hlt))
      have hsmj := HM.out.at j (by rw [HL.out]; exact hlt)
      have Hdl := Lib.hid (show (digsE (ss.take j)).length = j by rw [digsE_length, List.length_take, HL.out]; omega)
      generalize ss.getD j ByteArray.empty = s at *
      generalize digsE (ss.take j) = l at *
      go_wp2_with fail
      refine (of_s s _ hsmj HN.out.st.pla).mono ?_
      rintro e w3 ⟨rfl, hg3⟩
      clear hcell
      have H3 := Lib.hid (HN.out.st.grow hg3)
      have hown := ownsRow_grow HN.out.own hg3
      rw [Hdl.out] at hown
      have hbase := HN.out.gro.size
      have hgb := Lib.hid (HN.out.gro.tr hg3)
      have hbase2 : w1.heap.size ≤ w3.heap.size := hgb.out.size
      clear hg3
      generalize digE s = y at *
      go_wp2_with (first
        | (refine wpList_buildSlice_D rfl 38 27 (.tmp 19) rfl #[.int .u32 0, .int .u32 0, .int .u32 0, .int .u32 0] 16 rfl Tryd.underlying38 info_D y rfl ?_)
        | (at_builtin; refine wpList_append_new rfl (.tmp 17) (.tmp 20) 38 rfl w1.heap.size 27 (.agg #[.int .u32 0, .int .u32 0, .int .u32 0, .int .u32 0]) 4 16 Tryd.underlying38 info_D rfl (by omega) _ j _ rfl hown 1 1 (y.1.map u) rfl (by simp [y.2]) (us_news y) (by simp only [maxLen]; omega) (by omega) hbase2 ?_; intro v' w4 hown' hbel' _))
      go_roundw
      case rel =>
        refine ⟨j + 1, by omega, by go_num, ?_⟩
        rw [Hsucc.out]
        have hg4 : Grow w1 w4 := hgb.out.trans hbel'
        refine ⟨?_, ?_, hg4⟩
        · exact ⟨H1.out.box.grow hg4, H1.out.sl.grow hg4, H1.out.gro.tr hg4, H1.out.pla.grow hg4⟩
        · rw [List.length_append, Hdl.out, dcells_append, dcells_one]
          exact hown'
      case measure => simp [intOf]; omega
    · have e : j = n := by omega
      subst e
      have hj1 : decide ((j : Int) < (j : Int)) = false := by simp
      rw [List.take_of_length_le (by rw [HL.out]; omega)] at HN
      have hown := HN.out.own
      rw [digsE_length, HL.out] at hown
      have Hown := Lib.hid hown
      clear hown
      go_wp2_with fail
      go_ret
      exact ⟨_, rfl, ownsRow_base Hown.out H1.out.gro.size, H1.out.gro.tr HN.out.gro⟩
end Go.Proofs.YtamllmoakgnjoaaDoor
