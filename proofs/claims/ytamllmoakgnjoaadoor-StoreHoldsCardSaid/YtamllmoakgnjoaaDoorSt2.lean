import Derived.Test.YtamllmoakgnjoaaDoorSt
/- head.Of and seedcornref43.Of: the digest of a head. -/
namespace Go.Proofs.YtamllmoakgnjoaaDoor
open Go.RowKit
/-- The words of a head: its size, as 64 bits, and its root. -/
def hdM (k : Int) : Nat := (IntKind.u64.wrap k).toNat
theorem hdM_eq (k : Int) : IntKind.u64.wrap k = (hdM k : Int) := by
  unfold hdM
  have : 0 ≤ IntKind.u64.wrap k := by rw [IntKind.wrap_u64]; omega
  omega
def hdW (k : Int) (r : D) : List UInt32 := [UInt32.ofNat (hdM k), UInt32.ofNat (hdM k / 4294967296)] ++ r.1
theorem D.four (r : D) : ∃ x0 x1 x2 x3, r = ⟨[x0, x1, x2, x3], rfl⟩ := by
  obtain ⟨l, hl⟩ := r
  match l, hl with
  | [x0, x1, x2, x3], _ => exact ⟨x0, x1, x2, x3, rfl⟩
def hdE (k : Int) (r : D) : D := pairE (ofE (104 :: bytesE (hdW k r))) (ofE [104, 101, 97, 100])
structure HOAt (w0 w : World) (k : Int) (r : D) : Prop where
  box : Blk w w0.heap.size THd (hdC k r)
  res : Blk w (w0.heap.size + 1) 27 (us D.zero.1)
  gro : Grow w0 w
  pla : Places w
theorem HOAt.grow {w0 w w' : World} {k : Int} {r : D} (h : HOAt w0 w k r) (hg : Grow w w') : HOAt w0 w' k r := ⟨h.box.grow hg, h.res.grow hg, h.gro.tr hg, h.pla.grow hg⟩
theorem HOAt.new {w : World} (k : Int) (r : D) (hP : Places w) : HOAt w ((w.alloc (.cells (hdC k r) THd)).alloc (.cells (us D.zero.1) 27)) k r :=
  have hg : Grow w ((w.alloc (.cells (hdC k r) THd)).alloc (.cells (us D.zero.1) 27)) := ((Below.refl w.heap.size w).alloc (Nat.le_refl _) _).alloc (by simp) _
  ⟨(Blk.new _ _ _).alloc _, Blk.new1 _ _ _ _, hg, hP.grow hg⟩
set_option maxRecDepth 100000 in
set_option maxHeartbeats 2000000 in
theorem hof_c (k : Int) (r : D) (w : World) (hk1 : -9223372036854775808 ≤ k) (hk2 : k ≤ 9223372036854775807) (hP : Places w) :
    Calls Tryd.prog 25 #[.agg (hdC k r)] w fun e w' => e = .returned (.agg (us (hdE k r).1)) ∧ Grow w w' := by
  have H0 := Lib.hid (HOAt.new k r hP)
  clear hP
  have K1 := Lib.hid hk1
  have K2 := Lib.hid hk2
  clear hk1 hk2
  go_enter Tryd.func25, Tryd.ntmps25
  go_upto_region 1 with (fail)
  refine wp_gen (fun W => HOAt w W k r) H0.out ?_
  clear H0
  intro w1 h1
  have c0 := (h1.box.cell 0).trans (hdC_get0 k r)
  have H1 := Lib.hid h1
  clear h1
  have e0 := hdM_eq k
  obtain ⟨x0, x1, x2, x3, hx⟩ := D.four r
  have cr := fun j hj => (H1.out.box.cell (1 + j)).trans (hdC_get k r j hj)
  have d0 := cr 0 (by omega)
  have d1 := cr 1 (by omega)
  have d2 := cr 2 (by omega)
  have d3 := cr 3 (by omega)
  simp only [hx, Nat.add_zero, Nat.reduceAdd, List.getD_cons_zero, List.getD_cons_succ] at d0 d1 d2 d3
  have Hw := Lib.hid (show hdW k r = [UInt32.ofNat (hdM k), UInt32.ofNat (hdM k / 4294967296), x0, x1, x2, x3] by unfold hdW; rw [hx]; rfl)
  clear cr hx
  have Hd := Lib.hid (show hdE k r = pairE (ofE (104 :: bytesE (hdW k r))) (ofE [104, 101, 97, 100]) from rfl)
  rw [Hw.out] at Hd
  clear Hw
  generalize hdM k = m at *
  have elo : IntKind.u32.wrap (m : Int) = ((UInt32.ofNat m).toNat : Int) := by rw [u32_ofNat_toNat]; rfl
  have eh1 : (m : Int) / 4294967296 = ((m / 4294967296 : Nat) : Int) := by simp
  have ehi : IntKind.u32.wrap ((m / 4294967296 : Nat) : Int) = ((UInt32.ofNat (m / 4294967296)).toNat : Int) := by rw [u32_ofNat_toNat]; rfl
  generalize UInt32.ofNat m = lo at *
  generalize UInt32.ofNat (m / 4294967296) = hi at *
  generalize m / 4294967296 = mh at *
  go_upto_region 3 with (fail)
  obtain ⟨b4, hb4⟩ : ∃ b, b = w1.heap.size := ⟨_, rfl⟩
  have hga : Grow w1 (w1.alloc (.cells (us [lo, hi, x0, x1, x2, x3]) 25)) := (Grow.refl _).alloc (Nat.le_refl _) _
  refine wp_gen (fun W => HOAt w W k r ∧ Blk W b4 25 (us [lo, hi, x0, x1, x2, x3])) ⟨H1.out.grow hga, hb4 ▸ Blk.new _ _ _⟩ ?_
  rw [← hb4]
  clear hga hb4 c0 d0 d1 d2 d3 e0 elo ehi eh1 H1
  intro w2 h2
  have H2 := Lib.hid h2
  clear h2
  generalize hws : [lo, hi, x0, x1, x2, x3] = ws at *
  have Hwl := Lib.hid (show ws.length = 6 by rw [← hws]; rfl)
  clear hws
  have Hbl := Lib.hid (show (bytesE ws).length = 24 by rw [bytesE_length, Hwl.out])
  have had := fun W => run_string_add_lists (P := Tryd.prog) (w := W) [104] (bytesE ws) (by simp) (by rw [Hbl.out]; omega)
  go_wp2_with fail
  refine (bytes_c ws _ 6 6 _ (by omega) (SlU.of_blk H2.out.2 Hwl.out (by simp only [maxLen]; omega))).mono ?_
  rintro e w3 ⟨rfl, hg3⟩
  have H3 := Lib.hid (H2.out.1.grow hg3)
  clear hg3
  go_wp2_with fail
  refine (of_c (104 :: bytesE ws) _ (by rw [List.length_cons, Hbl.out]; omega) H3.out.pla).mono ?_
  rintro e w4 ⟨rfl, hg4⟩
  have H4 := Lib.hid (H3.out.grow hg4)
  clear hg4 had
  generalize ofE (104 :: bytesE ws) = y1 at *
  go_wp2_with fail
  refine (of_c [104, 101, 97, 100] _ (by simp) H4.out.pla).mono ?_
  rintro e w5 ⟨rfl, hg5⟩
  have H5 := Lib.hid (H4.out.grow hg5)
  clear hg5
  generalize ofE [104, 101, 97, 100] = y2 at *
  go_wp2_with fail
  refine (pair_c y1 y2 _ H5.out.pla).mono ?_
  rintro e w6 ⟨rfl, hg6⟩
  have H6 := Lib.hid (H5.out.grow hg6)
  have hR := H6.out.res
  clear hg6
  rw [← Hd.out]
  have sy := (hdE k r).sz
  have oy := (hdE k r).one
  generalize hy : hdE k r = y at *
  have Hy := Lib.hid hy
  clear hy
  go_wp2_with (refine wpList_store_row rfl 27 (.tmp 2) (.tmp 31) rfl (w.heap.size + 1) (us y.1) rfl rfl _ _ hR (by rw [sy]; kernel_rfl) (by rw [sy]; exact D.zero.sz) oy ?_)
  refine bodyPost_ret (results_cell_row (p := 2) (ty := 27) rfl _ _ (w.heap.size + 1) _ (us y.1) (0, 0) _ rfl (setRow_heap _ _ _ _ _ _ hR) Tryd.underlying27 rfl (by rw [sy]; kernel_rfl)) rfl ⟨by rw [Hy.out], ?_⟩
  exact H6.out.gro.setRow (by omega) _
theorem own_of_us {w : World} {b : Nat} {l : List UInt32} {n : Nat} (h : Blk w b 25 (us l)) (hl : l.length = n) (hn : n ≤ maxLen) {base : Nat} (hb : base ≤ b) : w.ownsRow base 25 1 (.slice (some ⟨b, 0, none⟩) n n) n (l.map u) := by
  refine ⟨by simp [hl], .inr ⟨b, n, _, rfl, hb, h, Nat.le_refl _, hn, by simp [us, hl], ?_⟩⟩
  simp only [Nat.mul_one]
  exact List.take_of_length_le (by simp [us, hl])
set_option maxRecDepth 100000 in
set_option maxHeartbeats 2000000 in
theorem rhof_c (k : Int) (r : D) (w : World) (hk1 : -9223372036854775808 ≤ k) (hk2 : k ≤ 9223372036854775807) (hP : Places w) :
    Calls Tryd.prog 26 #[.agg (hdC k r)] w fun e w' => e = .returned (.agg (us (hdE k r).1)) ∧ Grow w w' := by
  have H0 := Lib.hid (HOAt.new k r hP)
  clear hP
  have K1 := Lib.hid hk1
  have K2 := Lib.hid hk2
  clear hk1 hk2
  go_enter Tryd.func26, Tryd.ntmps26
  go_upto_region 1 with (fail)
  refine wp_gen (fun W => HOAt w W k r) H0.out ?_
  clear H0
  intro w1 h1
  have c0 := (h1.box.cell 0).trans (hdC_get0 k r)
  have H1 := Lib.hid h1
  clear h1
  have e0 := hdM_eq k
  have Hd := Lib.hid (show hdE k r = pairE (ofE (104 :: bytesE (hdW k r))) (ofE [104, 101, 97, 100]) from rfl)
  have Hw := Lib.hid (show hdW k r = [UInt32.ofNat (hdM k), UInt32.ofNat (hdM k / 4294967296)] ++ r.1 from rfl)
  generalize hdW k r = ws at *
  generalize hdM k = m at *
  have ew : IntKind.u64.wrap ((m / 4294967296 : Nat) : Int) = ((m / 4294967296 : Nat) : Int) := by
    have hm : m < 18446744073709551616 := by
      have h1 : IntKind.u64.wrap k < 18446744073709551616 := by rw [IntKind.wrap_u64]; omega
      rw [e0] at h1
      omega
    rw [IntKind.wrap_u64]; omega
  have er : (m : Int).tmod 4294967296 = ((m % 4294967296 : Nat) : Int) := by rw [Int.tmod_eq_emod_of_nonneg (by omega)]; omega
  have elo : IntKind.u32.wrap ((m % 4294967296 : Nat) : Int) = ((UInt32.ofNat m).toNat : Int) := by
    rw [u32_ofNat_toNat]
    show (_ : Int) % 4294967296 = _
    omega
  have eh1 : (m : Int) / 4294967296 = ((m / 4294967296 : Nat) : Int) := by simp
  have ehi : IntKind.u32.wrap ((m / 4294967296 : Nat) : Int) = ((UInt32.ofNat (m / 4294967296)).toNat : Int) := by rw [u32_ofNat_toNat]; rfl
  generalize UInt32.ofNat m = lo at *
  generalize UInt32.ofNat (m / 4294967296) = hi at *
  generalize m / 4294967296 = mh at *
  generalize m % 4294967296 = ml at *
  go_upto_region 3 with (fail)
  obtain ⟨b4, hb4⟩ : ∃ b, b = w1.heap.size := ⟨_, rfl⟩
  have hga : Grow w1 (w1.alloc (.cells (us [lo, hi]) 25)) := (Grow.refl _).alloc (Nat.le_refl _) _
  obtain ⟨B, hBw⟩ : ∃ B, B = w1.heap.size := ⟨_, rfl⟩
  refine wp_gen (fun W => Grow w1 W ∧ W.ownsRow B 25 1 (.slice (some ⟨b4, 0, none⟩) 2 2) 2 ([lo, hi].map u)) ⟨hga, by rw [hb4, hBw]; exact own_of_us (l := [lo, hi]) (n := 2) (Blk.new _ _ _) rfl (by simp [maxLen]) (Nat.le_refl _)⟩ ?_
  rw [← hb4]
  clear hga hb4 c0 e0 elo ehi eh1 er ew
  intro w2 h2
  rw [hBw] at h2
  clear hBw
  have H2 := Lib.hid h2
  clear h2
  generalize Value.slice (some ⟨b4, 0, none⟩) 2 2 = v0 at *
  go_wp2_with fail
  go_loopw [4, 5] (fun v i wr => ∃ j : Nat, j ≤ 4 ∧ i = .int .i64 j ∧ Grow w1 wr ∧ wr.ownsRow w1.heap.size 25 1 v (2 + j) (([lo, hi] ++ r.1.take j).map u)) (fun _ i _ => 4 - (intOf i).toNat)
  case atStart => exact ⟨0, by omega, rfl, H2.out.1, by rw [List.take_zero, List.append_nil]; exact H2.out.2⟩
  case round =>
    obtain ⟨j, hj, rfl, hG, hO⟩ := hrel
    have HG := Lib.hid hG
    have HO := Lib.hid hO
    clear hG hO H2
    by_cases hlt : j < 4
    · have hj1 : decide ((j : Int) < 4) = true := by simp; omega
      have b1 : (0 : Int) ≤ j := by omega
      have b2 : (j : Int) < 4 := by omega
      have hcell := ((H1.out.box.grow HG.out).cell (1 + j)).trans (hdC_get k r j hlt)
      have Hs := Lib.hid (show [lo, hi] ++ r.1.take (j + 1) = ([lo, hi] ++ r.1.take j) ++ [r.1.getD j 0] by
        rw [List.take_succ_eq_append_getElem (by rw [r.2]; exact hlt), ← List.append_assoc]
        simp [List.getD, r.2, hlt])
      generalize r.1.getD j 0 = x at *
      generalize [lo, hi] ++ r.1.take j = l at *
      have hown := HO.out
      have hbase := HG.out.size
      go_wp2_with (at_builtin; refine wpList_append_new rfl (.tmp 20) (.tmp 25) 83 rfl w1.heap.size 25 (.int .u32 0) 1 4 Tryd.underlying83 info_u32g rfl (by omega) _ (2 + j) _ rfl hown 1 1 ([x].map u) rfl rfl (u_one _) (by simp only [maxLen]; omega) (by omega) hbase ?_; intro v' w3 hown' hbel' _)
      go_roundw
      case rel =>
        refine ⟨j + 1, by omega, by go_num, HG.out.trans hbel', ?_⟩
        rw [Hs.out, List.map_append, show 2 + (j + 1) = 2 + j + 1 by omega]
        exact hown'
      case measure => simp [intOf]; omega
    · have e : j = 4 := by omega
      subst e
      rw [List.take_of_length_le (by rw [r.2]; exact Nat.le_refl _), ← Hw.out] at HO
      have hwl : ws.length = 6 := by rw [Hw.out]; simp [r.2]
      have H3 := Lib.hid (H1.out.grow HG.out)
      obtain ⟨g, cap, hv⟩ : ∃ g cap, u4 = .slice (some ⟨g, 0, none⟩) 6 cap := by
        obtain ⟨_, h0 | ⟨g, cap, cur, hv, _⟩⟩ := HO.out
        · omega
        · exact ⟨g, cap, hv⟩
      subst hv
      have Hsl := Lib.hid (SlU.of_own HO.out)
      have Hwl := Lib.hid hwl
      have Hbl := Lib.hid (show (bytesE ws).length = 24 by rw [bytesE_length, hwl])
      clear hwl HO HG
      have had := fun W => run_string_add_lists (P := Tryd.prog) (w := W) [104] (bytesE ws) (by simp) (by rw [Hbl.out]; omega)
      go_wp2_with fail
      refine (rbytes_c ws _ 6 cap _ (by omega) Hsl.out).mono ?_
      rintro e w3 ⟨rfl, hg3⟩
      have H4 := Lib.hid (H3.out.grow hg3)
      clear hg3
      go_wp2_with fail
      refine (rof_c (104 :: bytesE ws) _ (by rw [List.length_cons, Hbl.out]; omega)).mono ?_
      rintro e w4 ⟨rfl, hg4⟩
      have H5 := Lib.hid (H4.out.grow hg4)
      clear hg4 had
      generalize ofE (104 :: bytesE ws) = y1 at *
      go_wp2_with fail
      refine (rof_c [104, 101, 97, 100] _ (by simp)).mono ?_
      rintro e w5 ⟨rfl, hg5⟩
      have H6 := Lib.hid (H5.out.grow hg5)
      clear hg5
      generalize ofE [104, 101, 97, 100] = y2 at *
      go_wp2_with fail
      refine (rpair_c y1 y2 _).mono ?_
      rintro e w6 ⟨rfl, hg6⟩
      have H7 := Lib.hid (H6.out.grow hg6)
      have hR := H7.out.res
      clear hg6
      rw [← Hd.out]
      have sy := (hdE k r).sz
      have oy := (hdE k r).one
      generalize hy : hdE k r = y at *
      have Hy := Lib.hid hy
      clear hy
      go_wp2_with (refine wpList_store_row rfl 27 (.tmp 2) (.tmp 32) rfl (w.heap.size + 1) (us y.1) rfl rfl _ _ hR (by rw [sy]; kernel_rfl) (by rw [sy]; exact D.zero.sz) oy ?_)
      refine bodyPost_ret (results_cell_row (p := 2) (ty := 27) rfl _ _ (w.heap.size + 1) _ (us y.1) (0, 0) _ rfl (setRow_heap _ _ _ _ _ _ hR) Tryd.underlying27 rfl (by rw [sy]; kernel_rfl)) rfl ⟨by rw [Hy.out], ?_⟩
      exact H7.out.gro.setRow (by omega) _
end Go.Proofs.YtamllmoakgnjoaaDoor
/- seedcornlaw43.alive answers true: the examples of the document. -/
namespace Go.Proofs.YtamllmoakgnjoaaDoor
open Go.RowKit
def abS : ByteArray := ⟨#[97, 98]⟩
theorem SlS.of_blk {w : World} {b n : Nat} {e : TypeId} {l : List ByteArray} (h : Blk w b e (l.map Value.string).toArray) (hl : l.length = n) (hm : n ≤ maxLen) : SlS w (some ⟨b, 0, none⟩) n n l :=
  ⟨Nat.le_refl _, hm, hl, fun _ => ⟨b, 0, rfl, h.lt, fun i hi => by rw [h.cell, Nat.zero_add]; simp [List.getD, hl, hi]⟩⟩
theorem SlS.none (w : World) : SlS w none 0 0 [] := ⟨Nat.le_refl _, by simp [maxLen], rfl, fun h => by omega⟩
theorem root_ab : rootE noneE (digsE [abS]) = ofE [97, 98] := by
  unfold digsE
  rw [List.map_cons, List.map_nil, rootE_one]; rfl
theorem build_st0 (w : World) : (Instr.build TSt #[]).run Tryd.prog w = .ok (.agg #[.slice none 0 0]) w := run_build w TSt _ _ (by kernel_rfl)
theorem build_hd1 (d : D) (w : World) : (Instr.build THd #[(1, .agg (us d.1))]).run Tryd.prog w = .ok (.agg (hdC 0 d)) w := by
  obtain ⟨l, hl⟩ := d
  match l, hl with
  | [x0, x1, x2, x3], _ => exact run_build w THd _ _ (by kernel_rfl)
structure A43 (w0 w : World) (b g k : Nat) (r : D) : Prop where
  box : Blk w b TSt #[.slice (some ⟨g, 0, none⟩) 1 1]
  sl : SlS w (some ⟨g, 0, none⟩) 1 1 [abS]
  hd : Blk w k THd (hdC 1 r)
  gro : Grow w0 w
  pla : Places w
theorem A43.grow {w0 w w' : World} {b g k : Nat} {r : D} (h : A43 w0 w b g k r) (hg : Grow w w') : A43 w0 w' b g k r := ⟨h.box.grow hg, h.sl.grow hg, h.hd.grow hg, h.gro.tr hg, h.pla.grow hg⟩
theorem small_ab : small [abS] := by
  intro s hs
  have : s = abS := by simpa using hs
  subst this; decide
set_option maxRecDepth 100000 in
set_option maxHeartbeats 4000000 in
theorem alive43_c (w : World) (hP : Places w) : Calls Tryd.prog 21 #[] w fun e w' => e = .returned (.bool true) ∧ Grow w w' := by
  have HP := Lib.hid hP
  clear hP
  go_enter Tryd.func21, Tryd.ntmps21
  go_upto_region 2 with (fail)
  obtain ⟨g, hg⟩ : ∃ g, g = w.heap.size := ⟨_, rfl⟩
  have hga : Grow w ((w.alloc (.cells #[.string abS] 9)).alloc (.cells #[.slice (some ⟨w.heap.size, 0, none⟩) 1 1] TSt)) := ((Below.refl w.heap.size w).alloc (Nat.le_refl _) _).alloc (by simp) _
  have hsl : SlS ((w.alloc (.cells #[.string abS] 9)).alloc (.cells #[.slice (some ⟨w.heap.size, 0, none⟩) 1 1] TSt)) (some ⟨w.heap.size, 0, none⟩) 1 1 [abS] := SlS.of_blk (e := 9) ((Blk.new w 9 _).alloc _) rfl (by simp [maxLen])
  refine wp_gen (fun W => Blk W (g + 1) TSt #[.slice (some ⟨g, 0, none⟩) 1 1] ∧ SlS W (some ⟨g, 0, none⟩) 1 1 [abS] ∧ Grow w W) (by rw [hg]; exact ⟨Blk.new1 _ _ _ _, hsl, hga⟩) ?_
  rw [← hg]
  clear hg hga hsl
  intro w1 h1
  have hB := h1.1
  have H1 := Lib.hid h1
  clear h1
  go_wp2_with (refine wpList_load_row_g rfl TSt (.tmp 1) rfl (g + 1) rfl _ #[.slice (some ⟨g, 0, none⟩) 1 1] (0, 0) _ hB Tryd.underlying24 rfl (st_row _ 1 1) ?_)
  refine (shead_c (some ⟨g, 0, none⟩) 1 1 [abS] _ (by omega) small_ab (HP.out.grow H1.out.2.2) H1.out.2.1).mono ?_
  rintro e w2 ⟨rfl, hg2⟩
  have H2 := Lib.hid (And.intro (H1.out.1.grow hg2) (And.intro (H1.out.2.1.grow hg2) (H1.out.2.2.tr hg2)))
  clear hg2 hB
  generalize hr : rootE noneE (digsE [abS]) = r at *
  have Hr := Lib.hid hr
  clear hr
  have sy := hdC_size 1 r
  have oy := hdC_one 1 r
  generalize hz : hdC 1 r = z at *
  have Hz := Lib.hid hz
  clear hz
  go_upto_region 3 with (refine wpList_store_new rfl THd (.tmp 2) (.tmp 6) rfl z rfl rfl (by rw [sy]; kernel_rfl) (by rw [sy]; rfl) oy ?_)
  simp only [Act.put]
  rw [← Hz.out]
  obtain ⟨k, hk⟩ : ∃ k, k = w2.heap.size := ⟨_, rfl⟩
  have hga : Grow w2 (w2.alloc (.cells (hdC 1 r) THd)) := (Grow.refl _).alloc (Nat.le_refl _) _
  refine wp_gen (fun W => A43 w W (g + 1) g k r) ⟨H2.out.1.grow hga, H2.out.2.1.grow hga, hk ▸ Blk.new _ _ _, H2.out.2.2.tr hga, HP.out.grow (H2.out.2.2.tr hga)⟩ ?_
  rw [← hk]
  clear hk hga H1 H2 sy oy
  intro w3 h3
  have H3 := Lib.hid h3
  clear h3
  generalize hy : ofE [97, 98] = y at *
  have Hy := Lib.hid hy
  have hry : r = y := by rw [← Hr.out, root_ab, hy]
  have q1 := Lib.hid (fun W => rof_c [97, 98] W (by simp))
  rw [hy] at q1
  have q2 := Lib.hid (fun W => rof_c [] W (by simp))
  have hno : ofE [] = noneE := rfl
  rw [hno] at q2
  have l1 : lostE [abS] 1 r = 0 := by
    unfold lostE
    rw [if_neg (by omega), if_neg (by simp), if_pos]
    exact Hr.out
  have l2 : lostE [] 1 r = 6 := by
    unfold lostE
    rw [if_neg (by omega), if_pos (by simp)]
  have l3 : lostE [] 0 noneE = 0 := by
    unfold lostE
    rw [if_neg (by omega), if_neg (by simp), if_pos]
    exact rootE_nil noneE
  have m1 := Lib.hid (fun W (hW : A43 w W (g + 1) g k r) => lost_c (some ⟨g, 0, none⟩) 1 1 [abS] 1 r W (by omega) (by omega) (by omega) small_ab hW.pla hW.sl)
  have m2 := Lib.hid (fun W (hW : A43 w W (g + 1) g k r) => lost_c none 0 0 [] 1 r W (by omega) (by omega) (by omega) (fun s h => by cases h) hW.pla (SlS.none W))
  have m3 := Lib.hid (fun W (hW : A43 w W (g + 1) g k r) => lost_c none 0 0 [] 0 noneE W (by omega) (by omega) (by omega) (fun s h => by cases h) hW.pla (SlS.none W))
  rw [l1] at m1
  rw [l2] at m2
  rw [l3] at m3
  have Hry := Lib.hid hry
  have qe := Lib.hid (fun W => eqin_D9 r y W)
  rw [decide_eq_true hry] at qe
  have bh := Lib.hid (fun W => build_head 1 y W)
  generalize noneE = z0 at *
  clear hno l1 l2 l3 hry hy
  refine wp_region_all (fun W => A43 w W (g + 1) g k r) (by kernel_rfl) (by kernel_rfl) (H3.out.grow (Grow.refl _).drew) ?_
  refine quiet_load_row rfl THd (.tmp 2) rfl k rfl _ (hdC 1 r) (0, 0) _ (fun W hW => hW.hd) Tryd.underlying29 rfl (hd_row 1 r) ?_
  simp only [Act.put, List.setIfInBounds_toArray, List.set_cons_zero, List.set_cons_succ]
  (refine quiet_at rfl ⟨.agg (us y.1), fun W hW => ?_, ?_⟩)
  · go_simp; exact (q1.out _).mono (fun e w' h => ⟨h.1, hW.grow h.2⟩)
  simp only [Act.put, List.setIfInBounds_toArray, List.set_cons_zero, List.set_cons_succ]
  refine quiet_build rfl THd #[(0, .const (.int .i64 1)), (1, .tmp 8)] rfl [(0, .int .i64 1), (1, .agg (us y.1))] (by simp only [List.map_toArray, List.map_cons, List.map_nil]; rfl) (.agg (hdC 1 y)) (fun W => bh.out W) ?_
  simp only [Act.put, List.setIfInBounds_toArray, List.set_cons_zero, List.set_cons_succ]
  (refine quiet_ex rfl ?_; apply Exists.intro; refine ⟨fun W hW => ?_, ?_⟩)
  · have c0 := hdC_get0 1 r; have c1 := hdC_get0 1 y; have c2 := hdC_root 1 r; have c3 := hdC_root 1 y; have c4 := qe.out W; go_simp; try with_reducible rfl
  simp only [Act.put, List.setIfInBounds_toArray, List.set_cons_zero, List.set_cons_succ]
  (refine quiet_ex rfl ?_; apply Exists.intro; refine ⟨fun W hW => ?_, ?_⟩)
  · go_simp; try with_reducible rfl
  simp only [Act.put, List.setIfInBounds_toArray, List.set_cons_zero, List.set_cons_succ]
  refine quiet_load_row rfl TSt (.tmp 1) rfl (g + 1) rfl _ #[.slice (some ⟨g, 0, none⟩) 1 1] (0, 0) _ (fun W hW => hW.box) Tryd.underlying24 rfl (st_row _ 1 1) ?_
  simp only [Act.put, List.setIfInBounds_toArray, List.set_cons_zero, List.set_cons_succ]
  refine quiet_load_row rfl THd (.tmp 2) rfl k rfl _ (hdC 1 r) (0, 0) _ (fun W hW => hW.hd) Tryd.underlying29 rfl (hd_row 1 r) ?_
  simp only [Act.put, List.setIfInBounds_toArray, List.set_cons_zero, List.set_cons_succ]
  (refine quiet_at rfl ⟨.int .i64 0, fun W hW => ?_, ?_⟩)
  · go_simp; exact (m1.out _ hW).mono (fun e w' h => ⟨h.1, hW.grow h.2⟩)
  simp only [Act.put, List.setIfInBounds_toArray, List.set_cons_zero, List.set_cons_succ]
  (refine quiet_ex rfl ?_; apply Exists.intro; refine ⟨fun W hW => ?_, ?_⟩)
  · go_simp; try with_reducible rfl
  simp only [Act.put, List.setIfInBounds_toArray, List.set_cons_zero, List.set_cons_succ]
  (refine quiet_ex rfl ?_; apply Exists.intro; refine ⟨fun W hW => ?_, ?_⟩)
  · go_simp; try with_reducible rfl
  simp only [Act.put, List.setIfInBounds_toArray, List.set_cons_zero, List.set_cons_succ]
  (refine quiet_ex rfl ?_; apply Exists.intro; refine ⟨fun W hW => ?_, ?_⟩)
  · go_simp; try with_reducible rfl
  simp only [Act.put, List.setIfInBounds_toArray, List.set_cons_zero, List.set_cons_succ]
  refine quiet_build rfl TSt #[] rfl [] (by simp) (.agg #[.slice none 0 0]) (fun W => build_st0 W) ?_
  simp only [Act.put, List.setIfInBounds_toArray, List.set_cons_zero, List.set_cons_succ]
  refine quiet_load_row rfl THd (.tmp 2) rfl k rfl _ (hdC 1 r) (0, 0) _ (fun W hW => hW.hd) Tryd.underlying29 rfl (hd_row 1 r) ?_
  simp only [Act.put, List.setIfInBounds_toArray, List.set_cons_zero, List.set_cons_succ]
  (refine quiet_at rfl ⟨.int .i64 6, fun W hW => ?_, ?_⟩)
  · go_simp; exact (m2.out _ hW).mono (fun e w' h => ⟨h.1, hW.grow h.2⟩)
  simp only [Act.put, List.setIfInBounds_toArray, List.set_cons_zero, List.set_cons_succ]
  (refine quiet_ex rfl ?_; apply Exists.intro; refine ⟨fun W hW => ?_, ?_⟩)
  · go_simp; try with_reducible rfl
  simp only [Act.put, List.setIfInBounds_toArray, List.set_cons_zero, List.set_cons_succ]
  (refine quiet_ex rfl ?_; apply Exists.intro; refine ⟨fun W hW => ?_, ?_⟩)
  · go_simp; try with_reducible rfl
  simp only [Act.put, List.setIfInBounds_toArray, List.set_cons_zero, List.set_cons_succ]
  (refine quiet_ex rfl ?_; apply Exists.intro; refine ⟨fun W hW => ?_, ?_⟩)
  · go_simp; try with_reducible rfl
  simp only [Act.put, List.setIfInBounds_toArray, List.set_cons_zero, List.set_cons_succ]
  refine quiet_build rfl TSt #[] rfl [] (by simp) (.agg #[.slice none 0 0]) (fun W => build_st0 W) ?_
  simp only [Act.put, List.setIfInBounds_toArray, List.set_cons_zero, List.set_cons_succ]
  (refine quiet_at rfl ⟨.agg (us z0.1), fun W hW => ?_, ?_⟩)
  · go_simp; exact (q2.out _).mono (fun e w' h => ⟨h.1, hW.grow h.2⟩)
  simp only [Act.put, List.setIfInBounds_toArray, List.set_cons_zero, List.set_cons_succ]
  refine quiet_build rfl THd #[(1, .tmp 25)] rfl [(1, .agg (us z0.1))] (by simp only [List.map_toArray, List.map_cons, List.map_nil]; rfl) (.agg (hdC 0 z0)) (fun W => build_hd1 z0 W) ?_
  simp only [Act.put, List.setIfInBounds_toArray, List.set_cons_zero, List.set_cons_succ]
  (refine quiet_at rfl ⟨.int .i64 0, fun W hW => ?_, ?_⟩)
  · go_simp; exact (m3.out _ hW).mono (fun e w' h => ⟨h.1, hW.grow h.2⟩)
  simp only [Act.put, List.setIfInBounds_toArray, List.set_cons_zero, List.set_cons_succ]
  (refine quiet_ex rfl ?_; apply Exists.intro; refine ⟨fun W hW => ?_, ?_⟩)
  · go_simp; try with_reducible rfl
  simp only [Act.put, List.setIfInBounds_toArray, List.set_cons_zero, List.set_cons_succ]
  (refine quiet_ex rfl ?_; apply Exists.intro; refine ⟨fun W hW => ?_, ?_⟩)
  · go_simp; try with_reducible rfl
  simp only [Act.put, List.setIfInBounds_toArray, List.set_cons_zero, List.set_cons_succ]
  (refine quiet_ex rfl ?_; apply Exists.intro; refine ⟨fun W hW => ?_, ?_⟩)
  · go_simp; try with_reducible rfl
  simp only [Act.put, List.setIfInBounds_toArray, List.set_cons_zero]
  refine wpQuiet_nil ?_
  intro w4 h4
  have G4 := Lib.hid h4.gro
  clear h4
  go_wp2
  go_ret
  exact ⟨rfl, G4.out⟩
end Go.Proofs.YtamllmoakgnjoaaDoor
/- seedcornref43.Lost: has a store lost what a head says? -/
namespace Go.Proofs.YtamllmoakgnjoaaDoor
open Go.RowKit
set_option maxRecDepth 100000 in
set_option maxHeartbeats 4000000 in
theorem rlost_c (A : Option Addr) (n c : Nat) (ss : List ByteArray) (k : Int) (r : D) (w : World) (hk1 : -9223372036854775808 ≤ k) (hk2 : k ≤ 9223372036854775807) (hn : n ≤ 1000000) (hsm : small ss) (hP : Places w) (hs : SlS w A n c ss) :
    Calls Tryd.prog 24 #[.agg #[.slice A n c], .agg (hdC k r)] w fun e w' => e = .returned (.int .i64 (lostE ss k r)) ∧ Grow w w' := by
  have HS0 := Lib.hid (LoAt.new hs hP : LoAt w _ A n c ss k r)
  have HM := Lib.hid hsm
  have HL := Lib.hid hs.2.2.1
  clear hs hP hsm
  by_cases hneg : k < 0
  · have hlo : lostE ss k r = 1 := by unfold lostE; rw [if_pos hneg]
    have Hlo := Lib.hid hlo
    have t1 : decide (k < 0) = true := decide_eq_true hneg
    clear hlo hneg
    go_enter Tryd.func24, Tryd.ntmps24
    go_upto_region 1 with (fail)
    refine wp_gen (fun W => LoAt w W A n c ss k r) HS0.out ?_
    clear HS0
    intro w1 h1
    have c1 := (h1.hd.cell 0).trans (hdC_get0 k r)
    have H1 := Lib.hid h1
    clear h1
    go_wp2_with fail
    go_ret
    exact ⟨by rw [Hlo.out]; rfl, H1.out.st.gro⟩
  · obtain ⟨kn, rfl⟩ : ∃ kn : Nat, k = (kn : Int) := ⟨k.toNat, by omega⟩
    have t1 : decide ((kn : Int) < 0) = false := by simp
    by_cases hgt : n < kn
    · have hlo : lostE ss kn r = 6 := by unfold lostE; rw [if_neg (by omega), if_pos (by rw [HL.out]; omega)]
      have Hlo := Lib.hid hlo
      have t2 : decide (n < kn) = true := by simpa using hgt
      have t3 : decide ((n : Int) < (kn : Int)) = true := by simpa using hgt
      clear hlo hneg hgt
      go_enter Tryd.func24, Tryd.ntmps24
      go_upto_region 1 with (fail)
      refine wp_gen (fun W => LoAt w W A n c ss kn r) HS0.out ?_
      clear HS0
      intro w1 h1
      have c1 := (h1.hd.cell 0).trans (hdC_get0 kn r)
      have c2 := h1.st.box.cell 0
      have H1 := Lib.hid h1
      clear h1
      go_wp2_with fail
      go_ret
      exact ⟨by rw [Hlo.out]; rfl, H1.out.st.gro⟩
    · have hlo : lostE ss kn r = if rootE noneE (digsE (ss.take kn)) = r then 0 else 8 := by unfold lostE; rw [if_neg (by omega), if_neg (by rw [HL.out]; omega)]; rfl
      have Hlo := Lib.hid hlo
      have t2 : decide (n < kn) = false := by simpa using hgt
      have t3 : decide ((n : Int) < (kn : Int)) = false := by simpa using hgt
      have hkn : kn ≤ n := by omega
      clear hlo hneg hgt
      go_enter Tryd.func24, Tryd.ntmps24
      go_upto_region 1 with (fail)
      refine wp_gen (fun W => LoAt w W A n c ss kn r) HS0.out ?_
      clear HS0
      intro w1 h1
      have c1 := (h1.hd.cell 0).trans (hdC_get0 kn r)
      have c2 := h1.st.box.cell 0
      have H1 := Lib.hid h1
      clear h1
      go_upto_region 5 with (fail)
      clear c1 c2 t2 t3
      have Hdt := Lib.hid (show digsE (ss.take kn) = (digsE ss).take kn by unfold digsE; rw [List.map_take])
      rw [Hdt.out] at Hlo
      refine wp_region_anyC 8 (fun W => LoAt w W A n c ss kn r) (by kernel_rfl) (by kernel_rfl) (H1.out.grow (Grow.refl _).drew) ?_
      have hS := Stab.true_
      refine anyC_load_row (i := 0) (some 14) rfl rfl (by kernel_rfl) (by assumption) rfl TSt (.tmp 2) rfl w.heap.size rfl _ #[.slice A n c] (0, 0) _ (fun W hW => hW.st.box) Tryd.underlying24 rfl (st_row A n c) (fun _ _ _ h => h) ?_
      simp only [Act.put, List.setIfInBounds_toArray, List.set_cons_zero, List.set_cons_succ]
      (refine anyC_val (i := 2) (some 16) rfl rfl (by kernel_rfl) (fun _ _ _ _ h => h) (by assumption) rfl ?_; apply Exists.intro; refine ⟨fun W hW => ?_, ?_⟩)
      · go_simp; try with_reducible rfl
      simp only [Act.put, List.setIfInBounds_toArray, List.set_cons_zero, List.set_cons_succ]
      (refine anyC_val (i := 3) (some 17) rfl rfl (by kernel_rfl) (fun _ _ _ _ h => h) (by assumption) rfl ?_; apply Exists.intro; refine ⟨fun W hW => ?_, ?_⟩)
      · have cc := (hW.hd.cell 0).trans (hdC_get0 kn r); go_simp; try with_reducible rfl
      simp only [Act.put, List.setIfInBounds_toArray, List.set_cons_zero, List.set_cons_succ]
      (refine anyC_val (i := 6) (some 20) rfl rfl (by kernel_rfl) (fun _ _ _ _ h => h) (by assumption) rfl ?_; apply Exists.intro; refine ⟨fun W hW => ?_, ?_⟩)
      · go_simp; try with_reducible rfl
      simp only [Act.put, List.setIfInBounds_toArray, List.set_cons_zero, List.set_cons_succ]
      (refine anyC_val (i := 7) (some 21) rfl rfl (by kernel_rfl) (fun _ _ _ _ h => h) (by assumption) rfl ⟨_, fun W hW => run_load_D 27 (.tmp 20) rfl (w.heap.size + 1) 1 rfl r (fun k hk => (hW.hd.cell (1 + k)).trans (hdC_get kn r k hk)) _ Tryd.underlying27 hi_D, ?_⟩)
      simp only [Act.put, List.setIfInBounds_toArray, List.set_cons_zero, List.set_cons_succ]
      refine anyC_one (i := 1) (by kernel_rfl) (fun W hW _ => ?_)
      refine wpOp_call (some 15) rfl rfl rfl (by go_simp) ((rdigests_c A n c ss _ hn HM.out hW.st.pla hW.st.sl).mono ?_)
      rintro e w2 ⟨v, rfl, ho, hg2⟩
      obtain ⟨A2, c2, rfl, hs2⟩ := SlD.of_own ho
      have hnc2 : n ≤ c2 := hs2.1
      refine ⟨_, rfl, hW.grow hg2, (fun x => SlD x A2 n c2 (digsE ss)), (fun _ _ h g => h.grow g), hs2, ?_⟩
      clear ho hs2 hg2 hW
      have hS : Stab (fun x => SlD x A2 n c2 (digsE ss)) := fun _ _ h g => h.grow g
      have hkc2 : kn ≤ c2 := by omega
      simp only [Act.put, List.setIfInBounds_toArray, List.set_cons_zero, List.set_cons_succ]
      (refine anyC_val (i := 4) (some 18) rfl rfl (by kernel_rfl) (fun _ _ _ _ h => h) (by assumption) rfl ?_; apply Exists.intro; refine ⟨fun W hW => ?_, ?_⟩)
      · go_simp; try with_reducible rfl
      simp only [Act.put, List.setIfInBounds_toArray, List.set_cons_zero, List.set_cons_succ]
      refine anyC_one (i := 5) (by kernel_rfl) (fun W hW hR => ?_)
      refine wpOp_call (some 19) rfl rfl rfl (by go_simp) ((rroot_c kn kn (Nat.le_refl _) (by omega) A2 c2 ((digsE ss).take kn) W hW.st.pla (hR.take kn c2 hkn hkc2 hR.2.1)).mono ?_)
      rintro e w3 ⟨rfl, hg3⟩
      refine ⟨_, rfl, hW.grow hg3, (fun _ => True), Stab.true_, trivial, ?_⟩
      clear hR hg3 hW
      simp only [Act.put, List.setIfInBounds_toArray, List.set_cons_zero, List.set_cons_succ]
      refine anyC_tail_lit (by kernel_rfl) (fun w4 h4 _ => ?_)
      simp only [List.drop_succ_cons, List.drop_zero]
      generalize rootE noneE ((digsE ss).take kn) = y at *
      obtain ⟨bb, hbb⟩ : ∃ bb, bb = decide (y = r) := ⟨_, rfl⟩
      have Hbb := Lib.hid hbb
      have hq := fun W => neq_D y r W
      rw [← hbb] at hq
      clear hbb
      have G4 := Lib.hid h4.st.gro
      clear h4
      cases bb
      · have hf := of_decide_eq_false Hbb.out.symm
        have Hf := Lib.hid (show lostE ss kn r = 8 by rw [Hlo.out, if_neg hf])
        clear hf
        go_wp2_with fail
        go_ret
        exact ⟨by rw [Hf.out]; rfl, G4.out⟩
      · have hf := of_decide_eq_true Hbb.out.symm
        have Hf := Lib.hid (show lostE ss kn r = 0 by rw [Hlo.out, if_pos hf])
        clear hf
        go_wp2_with fail
        go_ret
        exact ⟨by rw [Hf.out]; rfl, G4.out⟩
end Go.Proofs.YtamllmoakgnjoaaDoor
/- seedcornref42.Few: few items, of few bytes each? -/
namespace Go.Proofs.YtamllmoakgnjoaaDoor
open Go.RowKit
def fewE (ss : List ByteArray) (most bytes : Nat) : Bool := decide (ss.length ≤ most) && ss.all fun s => decide (s.size ≤ bytes)
theorem fewE_spec {ss : List ByteArray} {most bytes : Nat} (h : fewE ss most bytes = true) : ss.length ≤ most ∧ ∀ s ∈ ss, s.size ≤ bytes := by
  unfold fewE at h
  simp only [Bool.and_eq_true, decide_eq_true_eq, List.all_eq_true] at h
  exact h
theorem fewE_bad {ss : List ByteArray} {most bytes j : Nat} (hj : j < ss.length) (h : bytes < (ss.getD j ByteArray.empty).size) : fewE ss most bytes = false := by
  cases hf : fewE ss most bytes with
  | false => rfl
  | true =>
    have := (fewE_spec hf).2 (ss.getD j ByteArray.empty) (by rw [List.getD_eq_getElem?_getD, List.getElem?_eq_getElem hj]; exact List.getElem_mem hj)
    omega
theorem fewE_good {ss : List ByteArray} {most bytes : Nat} (h : ∀ j, j < ss.length → (ss.getD j ByteArray.empty).size ≤ bytes) (hl : ss.length ≤ most) : fewE ss most bytes = true := by
  unfold fewE
  simp only [Bool.and_eq_true, decide_eq_true_eq, List.all_eq_true]
  refine ⟨hl, fun s hs => ?_⟩
  obtain ⟨j, hj, rfl⟩ := List.getElem_of_mem hs
  have := h j hj
  rw [List.getD_eq_getElem?_getD, List.getElem?_eq_getElem hj] at this
  exact this
theorem fewE_long {ss : List ByteArray} {most bytes : Nat} (h : most < ss.length) : fewE ss most bytes = false := by
  unfold fewE
  rw [decide_eq_false (by omega)]; rfl
set_option maxRecDepth 100000 in
set_option maxHeartbeats 2000000 in
theorem rfew_c (A : Option Addr) (n c : Nat) (ss : List ByteArray) (most bytes : Nat) (w : World) (hm : most ≤ 1000) (hb : bytes ≤ 1000000) (hsz : ∀ s ∈ ss, s.size ≤ maxLen) (hP : Places w) (hs : SlS w A n c ss) :
    Calls Tryd.prog 37 #[.agg #[.slice A n c], .int .i64 (most : Int), .int .i64 (bytes : Int)] w fun e w' => e = .returned (.bool (fewE ss most bytes)) ∧ Grow w w' := by
  have HS0 := Lib.hid (StAt.new hs hP)
  have HL := Lib.hid hs.2.2.1
  have hnm : n ≤ maxLen := Nat.le_trans hs.1 hs.2.1
  have HZ := Lib.hid (fun j (hj : j < ss.length) => (show (ss.getD j ByteArray.empty).size ≤ maxLen by
    rw [List.getD_eq_getElem?_getD, List.getElem?_eq_getElem hj]; exact hsz _ (List.getElem_mem hj)))
  clear hs hP hsz
  unfold maxLen at hnm
  go_enter Tryd.func37, Tryd.ntmps37
  go_upto_region 1 with (fail)
  refine wp_gen (fun W => StAt w W A n c ss) HS0.out ?_
  clear HS0
  intro w1 h1
  have hcell := h1.box.cell 0
  have H1 := Lib.hid h1
  clear h1
  go_wp2_with fail
  go_loop [7] (fun i => ∃ j : Nat, j ≤ n ∧ j ≤ most + 1 ∧ i = .int .i64 j ∧ ∀ q, q < j → (ss.getD q ByteArray.empty).size ≤ bytes) (fun i => n - (intOf i).toNat)
  case atStart => exact ⟨0, by omega, by omega, rfl, fun q hq => by omega⟩
  case round =>
    obtain ⟨j, hj, hj2, rfl, hE⟩ := hrel
    have HE := Lib.hid hE
    clear hE
    by_cases hlt : j < n
    · have t1 : decide (j < n) = true := by simpa using hlt
      have t1' : decide ((j : Int) < (n : Int)) = true := by simpa using hlt
      by_cases hle : j ≤ most
      · have t2 : decide (j ≤ most) = true := by simpa using hle
        have t2' : decide ((j : Int) ≤ (most : Int)) = true := by simpa using hle
        have b1 : (0 : Int) ≤ j := by omega
        have b2 : (j : Int) < n := by omega
        obtain ⟨g, o, rfl, -, -⟩ := H1.out.sl.2.2.2 (by omega)
        have hcc := Lib.hid H1.out.sl.1
        have hel := H1.out.sl.at j hlt
        have Hbad := Lib.hid (fun h => fewE_bad (ss := ss) (most := most) (bytes := bytes) (j := j) (by rw [HL.out]; exact hlt) h)
        have Hsn := Lib.hid (fun (h : (ss.getD j ByteArray.empty).size ≤ bytes) q (hq : q < j + 1) => (show (ss.getD q ByteArray.empty).size ≤ bytes by
          by_cases e : q = j
          · rw [e]; exact h
          · exact HE.out q (by omega)))
        have hzz := HZ.out j (by rw [HL.out]; exact hlt)
        unfold maxLen at hzz
        generalize ss.getD j ByteArray.empty = s at *
        by_cases hbig : bytes < s.size
        · have t3 : decide (bytes < s.size) = true := by simpa using hbig
          have t3' : decide ((bytes : Int) < (s.size : Int)) = true := by simpa using hbig
          have Hf := Lib.hid (Hbad.out hbig)
          go_wp2
          go_ret
          exact ⟨by rw [Hf.out]; rfl, H1.out.gro⟩
        · have t3 : decide (bytes < s.size) = false := by simpa using hbig
          have t3' : decide ((bytes : Int) < (s.size : Int)) = false := by simpa using hbig
          go_wp2
          go_round
          case rel => exact ⟨j + 1, by omega, by omega, by go_num, Hsn.out (by omega)⟩
          case measure => simp [intOf]; omega
      · have t2 : decide (j ≤ most) = false := by simpa using hle
        have t2' : decide ((j : Int) ≤ (most : Int)) = false := by simpa using hle
        have t4 : decide (n ≤ most) = false := by simp; omega
        have t4' : decide ((n : Int) ≤ (most : Int)) = false := by simp; omega
        have Hf := Lib.hid (fewE_long (ss := ss) (most := most) (bytes := bytes) (by rw [HL.out]; omega))
        go_wp2
        go_ret
        exact ⟨by rw [Hf.out]; rfl, H1.out.gro⟩
    · have e : j = n := by omega
      subst e
      have t1 : decide ((j : Int) < (j : Int)) = false := by simp
      by_cases hle : j ≤ most
      · have t4 : decide (j ≤ most) = true := by simpa using hle
        have t4' : decide ((j : Int) ≤ (most : Int)) = true := by simpa using hle
        have Hf := Lib.hid (fewE_good (ss := ss) (most := most) (bytes := bytes) (fun q hq => HE.out q (by rw [HL.out] at hq; exact hq)) (by rw [HL.out]; exact hle))
        go_wp2
        go_ret
        exact ⟨by rw [Hf.out]; rfl, H1.out.gro⟩
      · have t4 : decide (j ≤ most) = false := by simpa using hle
        have t4' : decide ((j : Int) ≤ (most : Int)) = false := by simpa using hle
        have Hf := Lib.hid (fewE_long (ss := ss) (most := most) (bytes := bytes) (by rw [HL.out]; omega))
        go_wp2
        go_ret
        exact ⟨by rw [Hf.out]; rfl, H1.out.gro⟩
end Go.Proofs.YtamllmoakgnjoaaDoor
/- seedcornref42.Right: may a store be? -/
namespace Go.Proofs.YtamllmoakgnjoaaDoor
open Go.RowKit
def rightE (ss : List ByteArray) : Bool := decide (ss.length ≤ 1000) && decide (digsE ss).Nodup
theorem nodup_of {l : List D} (h : ∀ i k, i < l.length → k < i → l.getD i D.zero ≠ l.getD k D.zero) : l.Nodup := by
  unfold List.Nodup
  rw [List.pairwise_iff_getElem]
  intro i j hi hj hij e
  have := h j i hj hij
  apply this
  simp only [List.getD_eq_getElem?_getD, List.getElem?_eq_getElem hi, List.getElem?_eq_getElem hj, Option.getD_some]
  exact e.symm
theorem not_nodup {l : List D} {i k : Nat} (hi : i < l.length) (hk : k < i) (h : l.getD i D.zero = l.getD k D.zero) : ¬ l.Nodup := by
  intro hn
  unfold List.Nodup at hn
  rw [List.pairwise_iff_getElem] at hn
  apply hn k i (by omega) hi hk
  simp only [List.getD_eq_getElem?_getD, List.getElem?_eq_getElem hi, List.getElem?_eq_getElem (show k < l.length by omega), Option.getD_some] at h
  exact h.symm
set_option maxRecDepth 100000 in
set_option maxHeartbeats 4000000 in
theorem rright_c (A : Option Addr) (n c : Nat) (ss : List ByteArray) (w : World) (hn : n ≤ 1000) (hsm : small ss) (hP : Places w) (hs : SlS w A n c ss) :
    Calls Tryd.prog 43 #[.agg #[.slice A n c]] w fun e w' => e = .returned (.bool (rightE ss)) ∧ Grow w w' := by
  have HS0 := Lib.hid (StAt.new hs hP)
  have HL := Lib.hid hs.2.2.1
  have HM := Lib.hid hsm
  have hre : rightE ss = decide (digsE ss).Nodup := by unfold rightE; rw [decide_eq_true (by rw [hs.2.2.1]; exact hn), Bool.true_and]
  have Hre := Lib.hid hre
  clear hs hP hsm hre
  go_enter Tryd.func43, Tryd.ntmps43
  go_upto_region 1 with (fail)
  refine wp_gen (fun W => StAt w W A n c ss) HS0.out ?_
  clear HS0
  intro w1 h1
  have hcell := h1.box.cell 0
  have hB := h1.box
  have H1 := Lib.hid h1
  clear h1
  have t1 : decide (1000 < n) = false := by simp; omega
  have t1' : decide ((1000 : Int) < (n : Int)) = false := by simp; omega
  go_wp2_with (refine wpList_load_row_g rfl TSt (.tmp 1) rfl w.heap.size rfl _ #[.slice A n c] (0, 0) _ hB Tryd.underlying24 rfl (st_row A n c) ?_)
  refine (rdigests_c A n c ss _ (by omega) HM.out H1.out.pla H1.out.sl).mono ?_
  rintro e w2 ⟨v, rfl, ho, hg2⟩
  obtain ⟨A2, c2, rfl, hs2⟩ := SlD.of_own ho
  have HS2 := Lib.hid hs2
  have G2 := Lib.hid (H1.out.gro.tr hg2)
  clear ho hg2 hs2 hcell hB t1 t1'
  have hll := HS2.out.2.2.1
  generalize digsE ss = l at *
  have Hll := Lib.hid hll
  clear hll
  go_wp2_with fail
  go_loopw [4, 5] (fun i _ wr => ∃ j : Nat, j ≤ n ∧ i = .int .i64 j ∧ (∀ p q, p < j → q < p → l.getD p D.zero ≠ l.getD q D.zero) ∧ Grow w2 wr) (fun i _ _ => n - (intOf i).toNat)
  case atStart => exact ⟨0, by omega, rfl, fun p q h => by omega, Grow.refl _⟩
  case round =>
    obtain ⟨j, hj, rfl, hE, hN⟩ := hrel
    have HE := Lib.hid hE
    have HN := Lib.hid hN
    clear hE hN
    by_cases hlt : j < n
    · have t1 : decide (j < n) = true := by simpa using hlt
      have t1' : decide ((j : Int) < (n : Int)) = true := by simpa using hlt
      obtain ⟨g, o, rfl, -, -⟩ := HS2.out.2.2.2 (by omega)
      have hcc := Lib.hid HS2.out.1
      go_wp2_with fail
      clear t1 t1'
      obtain ⟨wo, hwo⟩ : ∃ wo : World, wo = wr := ⟨_, rfl⟩
      subst hwo
      go_loopw [5] (fun i wr => ∃ k : Nat, k ≤ j ∧ i = .int .i64 k ∧ (∀ q, q < k → l.getD j D.zero ≠ l.getD q D.zero) ∧ Grow w2 wr) (fun i _ => j - (intOf i).toNat)
      case atStart => exact ⟨0, by omega, rfl, fun q h => by omega, HN.out⟩
      case round =>
        obtain ⟨k, hk, rfl, hF, hM⟩ := hrel
        have HF := Lib.hid hF
        have HM2 := Lib.hid hM
        clear hF hM
        by_cases hlk : k < j
        · have t2 : decide (k < j) = true := by simpa using hlk
          have t2' : decide ((k : Int) < (j : Int)) = true := by simpa using hlk
          have b1 : (0 : Int) ≤ j := by omega
          have b2 : (j : Int) < n := by omega
          have b3 : (0 : Int) ≤ k := by omega
          have b4 : (k : Int) < n := by omega
          have fa := Lib.hid (fun W (hW : Grow w2 W) => (HS2.out.grow hW).at j hlt)
          have fb := Lib.hid (fun W (hW : Grow w2 W) => (HS2.out.grow hW).at k (by omega))
          have Hsn := Lib.hid (fun (h : l.getD j D.zero ≠ l.getD k D.zero) q (hq : q < k + 1) => (show l.getD j D.zero ≠ l.getD q D.zero by
            by_cases e : q = k
            · rw [e]; exact h
            · exact HF.out q (by omega)))
          have Hno := Lib.hid (fun (h : l.getD j D.zero = l.getD k D.zero) => not_nodup (by rw [Hll.out]; exact hlt) hlk h)
          generalize l.getD j D.zero = x at *
          generalize l.getD k D.zero = y at *
          obtain ⟨bb, hbb⟩ : ∃ bb, bb = decide (x = y) := ⟨_, rfl⟩
          have Hbb := Lib.hid hbb
          clear hbb
          go_upto_region 10 with (fail)
          refine wp_region_all (fun W => Grow w2 W) (by kernel_rfl) (by kernel_rfl) HM2.out.drew ?_
          (refine quiet_ex rfl ?_; apply Exists.intro; refine ⟨fun W hW => ?_, ?_⟩)
          · go_simp; try with_reducible rfl
          simp only [Act.put, List.setIfInBounds_toArray, List.set_cons_zero, List.set_cons_succ]
          (refine quiet_ex rfl ?_; apply Exists.intro; refine ⟨fun W hW => ?_, ?_⟩)
          · go_simp; try with_reducible rfl
          simp only [Act.put, List.setIfInBounds_toArray, List.set_cons_zero, List.set_cons_succ]
          (refine quiet_ex rfl ?_; apply Exists.intro; refine ⟨fun W hW => ?_, ?_⟩)
          · go_simp; try with_reducible rfl
          simp only [Act.put, List.setIfInBounds_toArray, List.set_cons_zero, List.set_cons_succ]
          refine quiet_load_D rfl 27 (.tmp 25) rfl g (o + j * 4) rfl x (fun W hW => fa.out W hW) _ Tryd.underlying27 hi_D ?_
          simp only [Act.put, List.setIfInBounds_toArray, List.set_cons_zero, List.set_cons_succ]
          (refine quiet_ex rfl ?_; apply Exists.intro; refine ⟨fun W hW => ?_, ?_⟩)
          · go_simp; try with_reducible rfl
          simp only [Act.put, List.setIfInBounds_toArray, List.set_cons_zero, List.set_cons_succ]
          (refine quiet_ex rfl ?_; apply Exists.intro; refine ⟨fun W hW => ?_, ?_⟩)
          · go_simp; try with_reducible rfl
          simp only [Act.put, List.setIfInBounds_toArray, List.set_cons_zero, List.set_cons_succ]
          (refine quiet_ex rfl ?_; apply Exists.intro; refine ⟨fun W hW => ?_, ?_⟩)
          · go_simp; try with_reducible rfl
          simp only [Act.put, List.setIfInBounds_toArray, List.set_cons_zero, List.set_cons_succ]
          refine quiet_load_D rfl 27 (.tmp 29) rfl g (o + k * 4) rfl y (fun W hW => fb.out W hW) _ Tryd.underlying27 hi_D ?_
          simp only [Act.put, List.setIfInBounds_toArray, List.set_cons_zero, List.set_cons_succ]
          (refine quiet_ex rfl ?_; apply Exists.intro; refine ⟨fun W hW => ?_, ?_⟩)
          · have c := eqin_D x y W; rw [← Hbb.out] at c; go_simp; try with_reducible rfl
          simp only [Act.put, List.setIfInBounds_toArray, List.set_cons_zero, List.set_cons_succ]
          refine wpQuiet_nil ?_
          intro w5 h5
          have H5 := Lib.hid h5
          clear h5
          cases bb
          · go_wp2_with fail
            go_roundw
            case rel => exact ⟨k + 1, by omega, by go_num, Hsn.out (of_decide_eq_false Hbb.out.symm), H5.out⟩
            case measure => simp [intOf]; omega
          · have Hf := Lib.hid (decide_eq_false (Hno.out (of_decide_eq_true Hbb.out.symm)))
            go_wp2_with fail
            go_ret
            exact ⟨by rw [Hre.out, Hf.out]; rfl, G2.out.tr H5.out⟩
        · have e : k = j := by omega
          subst e
          have t2 : decide ((k : Int) < (k : Int)) = false := by simp
          go_wp2_with fail
          go_roundw
          case rel =>
            refine ⟨k + 1, by omega, by go_num, fun p q h1 h2 => ?_, HM2.out⟩
            by_cases e : p = k
            · rw [e]; exact HF.out q (by omega)
            · exact HE.out p q (by omega) h2
          case measure => simp [intOf]; omega
    · have e : j = n := by omega
      subst e
      have t1 : decide ((j : Int) < (j : Int)) = false := by simp
      have Hf := Lib.hid (decide_eq_true (nodup_of (l := l) (fun i k h1 h2 => HE.out i k (by rw [Hll.out] at h1; exact h1) h2)))
      go_wp2_with fail
      go_ret
      exact ⟨by rw [Hre.out, Hf.out]; rfl, G2.out.tr HN.out⟩
end Go.Proofs.YtamllmoakgnjoaaDoor
/- The walk of the law HeadLost: it answers true. -/
namespace Go.Proofs.YtamllmoakgnjoaaDoor
open Go.RowKit
theorem fewE_small {ss : List ByteArray} {most bytes : Nat} (h : fewE ss most bytes = true) (hb : bytes ≤ 1000000) : small ss := fun s hs => Nat.le_trans ((fewE_spec h).2 s hs) hb
set_option maxRecDepth 100000 in
set_option maxHeartbeats 2000000 in
theorem few43_c (A : Option Addr) (n c : Nat) (ss : List ByteArray) (w : World) (hsz : ∀ s ∈ ss, s.size ≤ maxLen) (hP : Places w) (hs : SlS w A n c ss) :
    Calls Tryd.prog 22 #[.agg #[.slice A n c]] w fun e w' => e = .returned (.bool (fewE ss 20 300 && rightE ss)) ∧ Grow w w' := by
  have HS0 := Lib.hid (StAt.new hs hP)
  have HL := Lib.hid hs.2.2.1
  have f1 := Lib.hid (fun W (hW : StAt w W A n c ss) => rfew_c A n c ss 20 300 W (by omega) (by omega) hsz hW.pla hW.sl)
  have f2 := Lib.hid (fun W (hW : StAt w W A n c ss) (h : fewE ss 20 300 = true) => rright_c A n c ss W (by have := (fewE_spec h).1; rw [hs.2.2.1] at this; omega) (fewE_small h (by omega)) hW.pla hW.sl)
  clear hs hP hsz
  generalize hb : fewE ss 20 300 = b at *
  generalize hr : rightE ss = r at *
  clear hb hr
  go_enter Tryd.func22, Tryd.ntmps22
  go_upto_region 1 with (fail)
  refine wp_gen (fun W => StAt w W A n c ss) HS0.out ?_
  clear HS0
  intro w1 h1
  have hB := h1.box
  have H1 := Lib.hid h1
  clear h1
  go_wp2_with (refine wpList_load_row_g rfl TSt (.tmp 1) rfl w.heap.size rfl _ #[.slice A n c] (0, 0) _ hB Tryd.underlying24 rfl (st_row A n c) ?_)
  refine (f1.out _ H1.out).mono ?_
  rintro e w2 ⟨rfl, hg2⟩
  have hB2 := hB.grow hg2
  have H2 := Lib.hid (H1.out.grow hg2)
  clear hg2 hB
  cases b
  · go_wp2_with fail
    go_ret
    exact ⟨rfl, H2.out.gro⟩
  · go_wp2_with (refine wpList_load_row_g rfl TSt (.tmp 1) rfl w.heap.size rfl _ #[.slice A n c] (0, 0) _ hB2 Tryd.underlying24 rfl (st_row A n c) ?_)
    refine (f2.out _ H2.out trivial).mono ?_
    rintro e w3 ⟨rfl, hg3⟩
    have H3 := Lib.hid (H2.out.grow hg3)
    clear hg3
    go_wp2_with fail
    go_ret
    exact ⟨by rw [Bool.true_and]; rfl, H3.out.gro⟩
set_option maxRecDepth 100000 in
set_option maxHeartbeats 4000000 in
theorem lheadLost_walk (A : Option Addr) (n c : Nat) (ss : List ByteArray) (k : Int) (r : D) (w : World) (hP : Places w) (hs : SlS w A n c ss) (hsz : ∀ s ∈ ss, s.size ≤ maxLen) (hk1 : -9223372036854775808 ≤ k) (hk2 : k ≤ 9223372036854775807) :
    Calls Tryd.prog 3 #[.agg #[.slice A n c], .agg (hdC k r)] w fun e w' => e = .returned (.bool true) ∧ Grow w w' := by
  have HS0 := Lib.hid (LoAt.new hs hP : LoAt w _ A n c ss k r)
  have HL := Lib.hid hs.2.2.1
  have HK := Lib.hid (And.intro hk1 hk2)
  have HZ := Lib.hid hsz
  clear hs hP hk1 hk2 hsz
  go_enter Tryd.func3, Tryd.ntmps3
  go_upto_region 1 with (fail)
  refine wp_gen (fun W => LoAt w W A n c ss k r) HS0.out ?_
  clear HS0
  intro w1 h1
  have H1 := Lib.hid h1
  clear h1
  go_wp2_with fail
  refine (alive43_c _ H1.out.st.pla).mono ?_
  rintro e w2 ⟨rfl, hg2⟩
  have H2 := Lib.hid (H1.out.grow hg2)
  have hB := H2.out.st.box
  clear hg2
  go_wp2_with (refine wpList_load_row_g rfl TSt (.tmp 2) rfl w.heap.size rfl _ #[.slice A n c] (0, 0) _ hB Tryd.underlying24 rfl (st_row A n c) ?_)
  refine (few43_c A n c ss _ HZ.out H2.out.st.pla H2.out.st.sl).mono ?_
  rintro e w3 ⟨rfl, hg3⟩
  have H3 := Lib.hid (H2.out.grow hg3)
  clear hg3 hB
  by_cases hf : fewE ss 20 300 = true
  · have hsm := fewE_small hf (by omega)
    have hn : n ≤ 20 := by have := (fewE_spec hf).1; rw [HL.out] at this; exact this
    rw [hf, Bool.true_and]
    generalize rightE ss = b at *
    cases b
    · clear hf hsm
      go_wp2_with fail
      go_ret
      exact ⟨rfl, H3.out.st.gro⟩
    · have m1 := Lib.hid (fun W (hW : LoAt w W A n c ss k r) => lost_c A n c ss k r W HK.out.1 HK.out.2 (by omega) hsm hW.st.pla hW.st.sl)
      have m2 := Lib.hid (fun W (hW : LoAt w W A n c ss k r) => rlost_c A n c ss k r W HK.out.1 HK.out.2 (by omega) hsm hW.st.pla hW.st.sl)
      obtain ⟨e1, he1⟩ : ∃ e, e = lostE ss k r := ⟨_, rfl⟩
      obtain ⟨e2, he2⟩ : ∃ e, e = lostE ss k r := ⟨_, rfl⟩
      rw [← he1] at m1
      rw [← he2] at m2
      have t := Lib.hid (show (e1 == e2) = true by rw [he1, he2]; simp)
      clear hf hsm he1 he2
      go_upto_region 5 with (fail)
      refine wp_region_all (fun W => LoAt w W A n c ss k r) (by kernel_rfl) (by kernel_rfl) (H3.out.grow (Grow.refl _).drew) ?_
      have tt := t.out
      refine quiet_load_row rfl TSt (.tmp 2) rfl w.heap.size rfl _ #[.slice A n c] (0, 0) _ (fun W hW => hW.st.box) Tryd.underlying24 rfl (st_row A n c) ?_
      simp only [Act.put, List.setIfInBounds_toArray, List.set_cons_zero, List.set_cons_succ]
      refine quiet_load_row rfl THd (.tmp 3) rfl (w.heap.size + 1) rfl _ (hdC k r) (0, 0) _ (fun W hW => hW.hd) Tryd.underlying29 rfl (hd_row k r) ?_
      simp only [Act.put, List.setIfInBounds_toArray, List.set_cons_zero, List.set_cons_succ]
      (refine quiet_at rfl ⟨.int .i64 e1, fun W hW => ?_, ?_⟩)
      · go_simp; exact (m1.out _ hW).mono (fun e w' h => ⟨h.1, hW.grow h.2⟩)
      simp only [Act.put, List.setIfInBounds_toArray, List.set_cons_zero, List.set_cons_succ]
      refine quiet_load_row rfl TSt (.tmp 2) rfl w.heap.size rfl _ #[.slice A n c] (0, 0) _ (fun W hW => hW.st.box) Tryd.underlying24 rfl (st_row A n c) ?_
      simp only [Act.put, List.setIfInBounds_toArray, List.set_cons_zero, List.set_cons_succ]
      refine quiet_load_row rfl THd (.tmp 3) rfl (w.heap.size + 1) rfl _ (hdC k r) (0, 0) _ (fun W hW => hW.hd) Tryd.underlying29 rfl (hd_row k r) ?_
      simp only [Act.put, List.setIfInBounds_toArray, List.set_cons_zero, List.set_cons_succ]
      (refine quiet_at rfl ⟨.int .i64 e2, fun W hW => ?_, ?_⟩)
      · go_simp; exact (m2.out _ hW).mono (fun e w' h => ⟨h.1, hW.grow h.2⟩)
      simp only [Act.put, List.setIfInBounds_toArray, List.set_cons_zero, List.set_cons_succ]
      (refine quiet_ex rfl ?_; apply Exists.intro; refine ⟨fun W hW => ?_, ?_⟩)
      · go_simp; try with_reducible rfl
      simp only [Act.put, List.setIfInBounds_toArray, List.set_cons_zero, List.set_cons_succ]
      (refine quiet_ex rfl ?_; apply Exists.intro; refine ⟨fun W hW => ?_, ?_⟩)
      · go_simp; try with_reducible rfl
      simp only [Act.put, List.setIfInBounds_toArray, List.set_cons_zero, List.set_cons_succ]
      refine wpQuiet_nil ?_
      intro w4 h4
      have G4 := Lib.hid h4.st.gro
      clear h4
      go_wp2
      go_ret
      exact ⟨rfl, G4.out⟩
  · have hf' : fewE ss 20 300 = false := by cases h : fewE ss 20 300 <;> simp_all
    rw [hf', Bool.false_and]
    clear hf hf'
    go_wp2_with fail
    go_ret
    exact ⟨rfl, H3.out.st.gro⟩
end Go.Proofs.YtamllmoakgnjoaaDoor
