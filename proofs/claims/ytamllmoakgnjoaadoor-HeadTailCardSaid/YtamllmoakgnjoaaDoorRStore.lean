/- seedcornref42.Digests: the digests of a store's items. -/
import Derived.Test.YtamllmoakgnjoaaDoorStore
namespace Go.Proofs.YtamllmoakgnjoaaDoor
open Go.RowKit
set_option maxRecDepth 100000 in
set_option maxHeartbeats 2000000 in
theorem rdigests_c (A : Option Addr) (n c : Nat) (ss : List ByteArray) (w : World) (hn : n ≤ 1000000) (hsm : small ss) (hP : Places w) (hs : SlS w A n c ss) :
    Calls Tryd.prog 39 #[.agg #[.slice A n c]] w fun e w' => ∃ v, e = .returned v ∧ w'.ownsRow w.heap.size 27 4 v n (dcells (digsE ss)) ∧ Grow w w' := by
  have HS0 := Lib.hid (StAt.new hs hP)
  have HM := Lib.hid hsm
  have HL := Lib.hid hs.2.2.1
  clear hs hP hsm
  go_enter Tryd.func39, Tryd.ntmps39
  go_upto_region 1 with (fail)
  refine wp_gen (fun W => StAt w W A n c ss) HS0.out ?_
  clear HS0
  intro w1 h1
  have hcell := h1.box.cell 0
  have H1 := Lib.hid h1
  clear h1
  have H2 := Lib.hid (DgAt.mk H1.out (World.ownsRow_nil w1 w1.heap.size 27 4) (Grow.refl w1) : DgAt w w1 w1 A n c ss (.slice none 0 0) [])
  go_wp2_with fail
  clear hcell
  go_loopw [3, 4] (fun v i wr => ∃ j : Nat, j ≤ n ∧ i = .int .i64 j ∧ DgAt w w1 wr A n c ss v (digsE (ss.take j))) (fun _ i _ => n - (intOf i).toNat)
  case atStart => exact ⟨0, by omega, rfl, by rw [List.take_zero]; exact H2.out⟩
  case round =>
    obtain ⟨j, hj, rfl, hN⟩ := hrel
    have HN := Lib.hid hN
    clear hN H2
    by_cases hlt : j < n
    · have hj1 : decide ((j : Int) < (n : Int)) = true := by simp; omega
      have b1 : (0 : Int) ≤ j := by omega
      have b2 : (j : Int) < n := by omega
      obtain ⟨g, o, rfl, -, -⟩ := HN.out.st.sl.2.2.2 (by omega)
      have hcc := Lib.hid HN.out.st.sl.1
      have hcell := HN.out.st.sl.at j hlt
      have hcell2 := HN.out.st.box.cell 0
      have Hsucc := Lib.hid (digsE_take_succ ss j (by rw [HL.out]; exact hlt))
      have hsmj := HM.out.at j (by rw [HL.out]; exact hlt)
      have Hdl := Lib.hid (show (digsE (ss.take j)).length = j by rw [digsE_length, List.length_take, HL.out]; omega)
      generalize ss.getD j ByteArray.empty = s at *
      generalize digsE (ss.take j) = l at *
      go_wp2_with fail
      refine (rof_s s _ hsmj).mono ?_
      rintro e w3 ⟨rfl, hg3⟩
      clear hcell hcell2
      have H3 := Lib.hid (HN.out.st.grow hg3)
      have hown := ownsRow_grow HN.out.own hg3
      rw [Hdl.out] at hown
      have hbase := HN.out.gro.size
      have hgb := Lib.hid (HN.out.gro.tr hg3)
      have hbase2 : w1.heap.size ≤ w3.heap.size := hgb.out.size
      clear hg3
      generalize digE s = y at *
      go_wp2_with (first
        | (refine wpList_buildSlice_D rfl 38 27 (.tmp 18) rfl #[.int .u32 0, .int .u32 0, .int .u32 0, .int .u32 0] 16 rfl Tryd.underlying38 info_D y rfl ?_)
        | (at_builtin; refine wpList_append_new rfl (.tmp 12) (.tmp 19) 38 rfl w1.heap.size 27 (.agg #[.int .u32 0, .int .u32 0, .int .u32 0, .int .u32 0]) 4 16 Tryd.underlying38 info_D rfl (by omega) _ j _ rfl hown 1 1 (y.1.map u) rfl (by simp [y.2]) (us_news y) (by simp only [maxLen]; omega) (by omega) hbase2 ?_; intro v' w4 hown' hbel' _))
      go_roundw
      case rel =>
        refine ⟨j + 1, by omega, by go_num, ?_⟩
        rw [Hsucc.out]
        have hg4 : Grow w1 w4 := hgb.out.trans hbel'
        refine ⟨?_, ?_, hg4⟩
        · exact ⟨H1.out.box.grow hg4, H1.out.sl.grow hg4, H1.out.gro.tr hg4, H1.out.pla.grow hg4⟩
        · rw [List.length_append, Hdl.out, dcells_append, dcells_one]
          exact hown'
      case measure => simp [intOf]; omega
    · have e : j = n := by omega
      subst e
      have hj1 : decide ((j : Int) < (j : Int)) = false := by simp
      have hcell2 := HN.out.st.box.cell 0
      rw [List.take_of_length_le (by rw [HL.out]; omega)] at HN
      have hown := HN.out.own
      rw [digsE_length, HL.out] at hown
      have Hown := Lib.hid hown
      clear hown
      go_wp2_with fail
      go_ret
      exact ⟨_, rfl, ownsRow_base Hown.out H1.out.gro.size, H1.out.gro.tr HN.out.gro⟩
end Go.Proofs.YtamllmoakgnjoaaDoor
