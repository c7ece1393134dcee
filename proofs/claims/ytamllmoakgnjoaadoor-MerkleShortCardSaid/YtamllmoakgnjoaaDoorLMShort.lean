/- The walk of the law MerkleShort: it answers true. -/
import Derived.Test.YtamllmoakgnjoaaDoorAlive04
import Derived.Test.YtamllmoakgnjoaaDoorAllU
namespace Go.Proofs.YtamllmoakgnjoaaDoor
open Go.RowKit
structure MSAt (w0 w : World) (g b sz : Nat) (x0 x1 x2 x3 : UInt32) : Prop where
  arr : ∃ cs, Blk w g 27 cs ∧ cs.size = sz * 4 ∧ AllU cs
  box : Blk w b 27 #[u x0, u x1, u x2, u x3]
  gro : Grow w0 w
theorem MSAt.grow {w0 w w' : World} {g b sz : Nat} {x0 x1 x2 x3 : UInt32} (h : MSAt w0 w g b sz x0 x1 x2 x3) (hg : Grow w w') : MSAt w0 w' g b sz x0 x1 x2 x3 :=
  ⟨let ⟨cs, h1, h2⟩ := h.arr; ⟨cs, h1.grow hg, h2⟩, h.box.grow hg, h.gro.tr hg⟩
theorem MSAt.setx {w0 w : World} {g b sz : Nat} {x0 x1 x2 x3 : UInt32} (h : MSAt w0 w g b sz x0 x1 x2 x3) (hne : g ≠ b) (hb : w0.heap.size ≤ b) (y : UInt32) : MSAt w0 (w.setCell ⟨b, 0, none⟩ (u y)) g b sz y x1 x2 x3 :=
  ⟨let ⟨cs, h1, h2⟩ := h.arr; ⟨cs, h1.far (by simpa using hne) _, h2⟩, h.box.set_ 0 (u y), h.gro.setCell hb _⟩
theorem MSAt.put {w0 w : World} {g b sz : Nat} {x0 x1 x2 x3 : UInt32} (h : MSAt w0 w g b sz x0 x1 x2 x3) (hne : g ≠ b) (hg : w0.heap.size ≤ g) (o : Nat) : MSAt w0 (w.setCells g o [u x0, u x1, u x2, u x3]) g b sz x0 x1 x2 x3 := by
  obtain ⟨cs, h1, h2, h3⟩ := h.arr
  obtain ⟨cs', k1, k2, k3⟩ := setCells_D h1 h3 o ⟨[x0, x1, x2, x3], rfl⟩
  exact ⟨⟨cs', k1, k2.trans h2, k3⟩, (setCells_far (fun e => hne e.symm) _ _).trans h.box, setCells_below hg _ _ _ h.gro⟩
theorem D.four (d : D) : ∃ x0 x1 x2 x3, us d.1 = #[u x0, u x1, u x2, u x3] := by
  obtain ⟨l, hl⟩ := d
  match l, hl with
  | [x0, x1, x2, x3], _ => exact ⟨x0, x1, x2, x3, rfl⟩
set_option maxRecDepth 100000 in
set_option maxHeartbeats 4000000 in
theorem lmshort_walk (d : D) (n i : Int) (w : World) (hP : Places w) (hn1 : 0 ≤ n) (hn2 : n ≤ 65535) (hi1 : 0 ≤ i) (hi2 : i ≤ 65535) :
    Calls Tryd.prog 5 #[.agg (us d.1), .int .u16 n, .int .u16 i] w fun e w' => e = .returned (.bool true) ∧ Grow w w' := by
  have HP := Lib.hid hP
  clear hP
  obtain ⟨nn, rfl⟩ : ∃ nn : Nat, n = (nn : Int) := ⟨n.toNat, by omega⟩
  obtain ⟨ii, rfl⟩ : ∃ ii : Nat, i = (ii : Int) := ⟨i.toNat, by omega⟩
  go_enter Tryd.func5, Tryd.ntmps5
  go_upto_region 1 with (fail)
  have hg0 : Grow w (w.alloc (.cells (us d.1) 27)) := (Grow.refl _).alloc (Nat.le_refl _) _
  refine wp_gen (fun W => Blk W w.heap.size 27 (us d.1) ∧ Grow w W ∧ Places W) ⟨Blk.new _ _ _, hg0, HP.out.grow hg0⟩ ?_
  clear hg0
  intro w1 h1
  have H1 := Lib.hid h1
  clear h1
  go_wp2_with fail
  refine (alive04_c _ H1.out.2.2).mono ?_
  rintro e w2 ⟨rfl, hg2⟩
  have H2 := Lib.hid (And.intro (H1.out.1.grow hg2) (And.intro (H1.out.2.1.tr hg2) (H1.out.2.2.grow hg2)))
  clear hg2
  obtain ⟨r, hr⟩ : ∃ r, r = nn % 1000 := ⟨_, rfl⟩
  have t1 : (nn : Int).tmod 1000 = (r : Int) := by rw [Int.tmod_eq_emod_of_nonneg (by omega)]; omega
  have hr2 : r < 1000 := by omega
  clear hr
  obtain ⟨sz, hsz⟩ : ∃ sz, sz = r + 1 := ⟨_, rfl⟩
  have e1 : (1 : Int) + (r : Int) = (sz : Int) := by omega
  have hs1 : sz ≤ 1000 := by omega
  have hs2 : 1 ≤ sz := by omega
  clear hsz
  have hmk := fun W => run_make_const (P := Tryd.prog) 38 27 _ 4 16 Tryd.underlying38 info_D sz sz (Nat.le_refl _) (by omega) (by omega) W
  go_upto_region 5 with (fail)
  clear hmk t1
  have hg3 : Grow w (w2.alloc (.cells (madeCells #[.int .u32 0, .int .u32 0, .int .u32 0, .int .u32 0] (sz * 4)) 27)) := H2.out.2.1.tr ((Grow.refl _).alloc (Nat.le_refl _) _)
  refine wp_gen (fun W => Blk W w.heap.size 27 (us d.1) ∧ (∃ cs, Blk W w2.heap.size 27 cs ∧ cs.size = sz * 4 ∧ AllU cs) ∧ Grow w W) ⟨H2.out.1.alloc _, ⟨_, Blk.new _ _ _, size_madeCells _ _, madeU _⟩, hg3⟩ ?_
  have hgg : w.heap.size ≤ w2.heap.size := H2.out.2.1.size
  clear hg3
  generalize w2.heap.size = g at *
  intro w3 h3
  have hb3 := h3.1
  obtain ⟨cs3, hc3, -, -⟩ := h3.2.1
  have hlt3 := hc3.lt
  clear hc3
  have H3 := Lib.hid h3
  clear h3 H2
  go_upto_region 6 with (first
    | (refine wpList_load_row_g rfl 27 (.tmp 3) rfl (w.heap.size) rfl _ (us d.1) (0, 0) _ hb3 Tryd.underlying27 rfl (by rw [d.sz]; kernel_rfl) ?_)
    | (refine wpList_store_row rfl 27 (.tmp 9) (.tmp 24) rfl (w3.heap.size) (us d.1) rfl rfl _ _ (Blk.new w3 27 (us D.zero.1)) (by rw [d.sz]; kernel_rfl) (by rw [d.sz]; rfl) d.one ?_))
  obtain ⟨x0, x1, x2, x3, hx⟩ := d.four
  have h4 : MSAt w ((w3.alloc (.cells (us D.zero.1) 27)).setRow w3.heap.size (us d.1)) g w3.heap.size sz x0 x1 x2 x3 := by
    obtain ⟨cs, k1, k2⟩ := H3.out.2.1
    refine ⟨⟨cs, (k1.alloc _).setRow_far (by omega) _, k2⟩, ?_, (H3.out.2.2.alloc (Nat.le_trans hgg (Nat.le_of_lt hlt3)) _).setRow (Nat.le_trans hgg (Nat.le_of_lt hlt3)) _⟩
    rw [← hx]
    exact (Blk.new w3 27 (us D.zero.1)).setRow (us d.1)
  refine wp_gen (fun W => MSAt w W g w3.heap.size sz x0 x1 x2 x3) h4 ?_
  have hne : g ≠ w3.heap.size := by omega
  have hbb : w.heap.size ≤ w3.heap.size := by omega
  clear h4 hx hb3 hlt3 H3
  generalize w3.heap.size = b at *
  intro w4 h4
  have H4 := Lib.hid h4
  clear h4
  go_wp2_with fail
  go_loopw [10] (fun i wr => ∃ (j : Nat) (x0 x1 x2 x3 : UInt32), j ≤ sz ∧ i = .int .i64 j ∧ MSAt w wr g b sz x0 x1 x2 x3) (fun i _ => sz - (intOf i).toNat)
  case atStart => exact ⟨0, x0, x1, x2, x3, by omega, rfl, H4.out⟩
  case round =>
    clear H4 x0 x1 x2 x3
    obtain ⟨j, x0, x1, x2, x3, hj, rfl, hM⟩ := hrel
    have HM := Lib.hid hM
    clear hM
    by_cases hlt : j < sz
    · have t1 : decide (j < sz) = true := by simpa using hlt
      have t1' : decide ((j : Int) < (sz : Int)) = true := by simpa using hlt
      have b1 : (0 : Int) ≤ j := by omega
      have b2 : (j : Int) < sz := by omega
      have c0 : wr.cell? ⟨b, 0, none⟩ = some (.int .u32 (x0.toNat : Int)) := HM.out.box.cell 0
      have f0 := HM.out.box.frozen 0
      have Hse := Lib.hid (show MSAt w (wr.setCell ⟨b, 0, none⟩ (.int .u32 (((x0.toNat : Int) + 1) % 4294967296))) g b sz (x0 + 1) x1 x2 x3 by
        rw [show ((x0.toNat : Int) + 1) % 4294967296 = ((x0 + 1).toNat : Int) from u32_add x0 1]
        exact HM.out.setx hne hbb (x0 + 1))
      go_upto_region 10 with (fail)
      refine wp_gen (fun W => MSAt w W g b sz (x0 + 1) x1 x2 x3) Hse.out ?_
      clear HM c0 f0 Hse
      generalize x0 + 1 = y0
      intro w5 h5
      obtain ⟨cs, hcs⟩ : ∃ cs, cs = #[u y0, u x1, u x2, u x3] := ⟨_, rfl⟩
      have hsz4 : cs.size = 4 := by rw [hcs]; rfl
      have hone : cs.all (·.oneCell') = true := by rw [hcs]; exact us_one [y0, x1, x2, x3]
      have hbx : Blk w5 b 27 cs := by rw [hcs]; exact h5.box
      have hth : w5.there g (j * 4) cs.size := by
        obtain ⟨ca, k1, k2, -⟩ := h5.arr
        exact AllU.there k1 _ _ (by rw [k2, hsz4]; omega)
      have h6 : MSAt w (w5.setCells g (j * 4) cs.toList) g b sz y0 x1 x2 x3 := by rw [hcs]; exact h5.put hne hgg _
      have H6 := Lib.hid h6
      clear h5 h6 hcs
      go_wp2_with (first
        | (refine wpList_load_row_g rfl 27 (.tmp 9) rfl (b) rfl _ (cs) (0, 0) _ hbx Tryd.underlying27 rfl (by rw [hsz4]; kernel_rfl) ?_)
        | (refine wpList_store_mid rfl 27 (.tmp 37) (.tmp 36) rfl g (j * 4) cs rfl rfl hth (by rw [hsz4]; kernel_rfl) hone ?_))
      go_roundw
      case rel => exact ⟨j + 1, y0, x1, x2, x3, by omega, by go_num, H6.out⟩
      case measure => simp [intOf]; omega
    · have e : j = sz := by omega
      subst e
      have t1 : decide ((j : Int) < (j : Int)) = false := by simp
      obtain ⟨cs, k1, k2, k3⟩ := HM.out.arr
      obtain ⟨l, hl⟩ := k3.sl k1 k2 (by simp only [maxLen]; omega)
      have HS := Lib.hid hl
      have HG := Lib.hid HM.out.gro
      clear k1 k2 k3 hl HM cs
      obtain ⟨ia, hia⟩ : ∃ a, a = ii % j := ⟨_, rfl⟩
      have ha : ia < j := by rw [hia]; exact Nat.mod_lt _ (by omega)
      have t2 : (ii : Int).tmod (j : Int) = (ia : Int) := by rw [Int.tmod_eq_emod_of_nonneg (by omega), hia]; exact (Int.natCast_emod ii j).symm
      have z1 : ¬ (j : Int) = 0 := by omega
      have z2 : ((j : Int) == 0) = false := by simpa using z1
      have z3 : ¬ j = 0 := by omega
      clear hia
      go_wp2_with fail
      refine (prove_c j (by omega) ia _ j l _ ha (HP.out.grow HG.out) HS.out).mono ?_
      rintro e w5 ⟨v1, rfl, ho1, hg5⟩
      have hlen1 := wayE_length_le noneE 10 l ia (by rw [HS.out.2.2.1]; omega)
      have hlen2 := goesE_length_le noneE 10 l (ia + 1) true (by rw [HS.out.2.2.1]; omega)
      obtain ⟨A1, c1, rfl, -⟩ := SlD.of_own ho1
      clear ho1
      generalize (wayE noneE l ia).length = p at *
      have H5 := Lib.hid (And.intro (HS.out.grow hg5) (HG.out.tr hg5))
      clear hg5
      go_wp2_with fail
      have hp := proveOn_c j (by omega) (ia + 1) (some ⟨g, 0, none⟩) j l w5 (by omega) (by omega) (HP.out.grow H5.out.2) H5.out.1
      simp only [Int.natCast_add, Int.cast_ofNat_Int] at hp
      refine hp.mono ?_
      rintro e w6 ⟨v2, rfl, ho2, hg6⟩
      clear hp
      obtain ⟨A2, c2, rfl, -⟩ := SlD.of_own ho2
      clear ho2
      generalize (goesE noneE l (ia + 1) true).length = q at *
      have H6 := Lib.hid (H5.out.2.tr hg6)
      clear hg6
      have t3 : decide ((p : Int) ≤ 10) = true := by simp; omega
      have t3' : decide (p ≤ 10) = true := by simp; omega
      have t4 : decide ((q : Int) ≤ 11) = true := by simp; omega
      have t4' : decide (q ≤ 11) = true := by simp; omega
      go_wp2
      go_ret
      exact ⟨rfl, H6.out⟩
end Go.Proofs.YtamllmoakgnjoaaDoor
