/- head.Of and seedcornref43.Of: the digest of a head. -/
import Derived.Test.YtamllmoakgnjoaaDoorHead
namespace Go.Proofs.YtamllmoakgnjoaaDoor
open Go.RowKit
/-- The words of a head: its size, as 64 bits, and its root. -/
def hdM (k : Int) : Nat := (IntKind.u64.wrap k).toNat
theorem hdM_eq (k : Int) : IntKind.u64.wrap k = (hdM k : Int) := by
  unfold hdM
  have : 0 ≤ IntKind.u64.wrap k := by rw [IntKind.wrap_u64]; omega
  omega
def hdW (k : Int) (r : D) : List UInt32 := [UInt32.ofNat (hdM k), UInt32.ofNat (hdM k / 4294967296)] ++ r.1
theorem D.four (r : D) : ∃ x0 x1 x2 x3, r = ⟨[x0, x1, x2, x3], rfl⟩ := by
  obtain ⟨l, hl⟩ := r
  match l, hl with
  | [x0, x1, x2, x3], _ => exact ⟨x0, x1, x2, x3, rfl⟩
def hdE (k : Int) (r : D) : D := pairE (ofE (104 :: bytesE (hdW k r))) (ofE [104, 101, 97, 100])
structure HOAt (w0 w : World) (k : Int) (r : D) : Prop where
  box : Blk w w0.heap.size THd (hdC k r)
  res : Blk w (w0.heap.size + 1) 27 (us D.zero.1)
  gro : Grow w0 w
  pla : Places w
theorem HOAt.grow {w0 w w' : World} {k : Int} {r : D} (h : HOAt w0 w k r) (hg : Grow w w') : HOAt w0 w' k r := ⟨h.box.grow hg, h.res.grow hg, h.gro.tr hg, h.pla.grow hg⟩
theorem HOAt.new {w : World} (k : Int) (r : D) (hP : Places w) : HOAt w ((w.alloc (.cells (hdC k r) THd)).alloc (.cells (us D.zero.1) 27)) k r :=
  have hg : Grow w ((w.alloc (.cells (hdC k r) THd)).alloc (.cells (us D.zero.1) 27)) := ((Below.refl w.heap.size w).alloc (Nat.le_refl _) _).alloc (by simp) _
  ⟨(Blk.new _ _ _).alloc _, Blk.new1 _ _ _ _, hg, hP.grow hg⟩
set_option maxRecDepth 100000 in
set_option maxHeartbeats 2000000 in
theorem hof_c (k : Int) (r : D) (w : World) (hk1 : -9223372036854775808 ≤ k) (hk2 : k ≤ 9223372036854775807) (hP : Places w) :
    Calls Tryd.prog 25 #[.agg (hdC k r)] w fun e w' => e = .returned (.agg (us (hdE k r).1)) ∧ Grow w w' := by
  have H0 := Lib.hid (HOAt.new k r hP)
  clear hP
  have K1 := Lib.hid hk1
  have K2 := Lib.hid hk2
  clear hk1 hk2
  go_enter Tryd.func25, Tryd.ntmps25
  go_upto_region 1 with (fail)
  refine wp_gen (fun W => HOAt w W k r) H0.out ?_
  clear H0
  intro w1 h1
  have c0 := (h1.box.cell 0).trans (hdC_get0 k r)
  have H1 := Lib.hid h1
  clear h1
  have e0 := hdM_eq k
  obtain ⟨x0, x1, x2, x3, hx⟩ := D.four r
  have cr := fun j hj => (H1.out.box.cell (1 + j)).trans (hdC_get k r j hj)
  have d0 := cr 0 (by omega)
  have d1 := cr 1 (by omega)
  have d2 := cr 2 (by omega)
  have d3 := cr 3 (by omega)
  simp only [hx, Nat.add_zero, Nat.reduceAdd, List.getD_cons_zero, List.getD_cons_succ] at d0 d1 d2 d3
  have Hw := Lib.hid (show hdW k r = [UInt32.ofNat (hdM k), UInt32.ofNat (hdM k / 4294967296), x0, x1, x2, x3] by unfold hdW; rw [hx]; rfl)
  clear cr hx
  have Hd := Lib.hid (show hdE k r = pairE (ofE (104 :: bytesE (hdW k r))) (ofE [104, 101, 97, 100]) from rfl)
  rw [Hw.out] at Hd
  clear Hw
  generalize hdM k = m at *
  have elo : IntKind.u32.wrap (m : Int) = ((UInt32.ofNat m).toNat : Int) := by rw [u32_ofNat_toNat]; rfl
  have eh1 : (m : Int) / 4294967296 = ((m / 4294967296 : Nat) : Int) := by simp
  have ehi : IntKind.u32.wrap ((m / 4294967296 : Nat) : Int) = ((UInt32.ofNat (m / 4294967296)).toNat : Int) := by rw [u32_ofNat_toNat]; rfl
  generalize UInt32.ofNat m = lo at *
  generalize UInt32.ofNat (m / 4294967296) = hi at *
  generalize m / 4294967296 = mh at *
  go_upto_region 3 with (fail)
  obtain ⟨b4, hb4⟩ : ∃ b, b = w1.heap.size := ⟨_, rfl⟩
  have hga : Grow w1 (w1.alloc (.cells (us [lo, hi, x0, x1, x2, x3]) 25)) := (Grow.refl _).alloc (Nat.le_refl _) _
  refine wp_gen (fun W => HOAt w W k r ∧ Blk W b4 25 (us [lo, hi, x0, x1, x2, x3])) ⟨H1.out.grow hga, hb4 ▸ Blk.new _ _ _⟩ ?_
  rw [← hb4]
  clear hga hb4 c0 d0 d1 d2 d3 e0 elo ehi eh1 H1
  intro w2 h2
  have H2 := Lib.hid h2
  clear h2
  generalize hws : [lo, hi, x0, x1, x2, x3] = ws at *
  have Hwl := Lib.hid (show ws.length = 6 by rw [← hws]; rfl)
  clear hws
  have Hbl := Lib.hid (show (bytesE ws).length = 24 by rw [bytesE_length, Hwl.out])
  have had := fun W => run_string_add_lists (P := Tryd.prog) (w := W) [104] (bytesE ws) (by simp) (by rw [Hbl.out]; omega)
  go_wp2_with fail
  refine (bytes_c ws _ 6 6 _ (by omega) (SlU.of_blk H2.out.2 Hwl.out (by simp only [maxLen]; omega))).mono ?_
  rintro e w3 ⟨rfl, hg3⟩
  have H3 := Lib.hid (H2.out.1.grow hg3)
  clear hg3
  go_wp2_with fail
  refine (of_c (104 :: bytesE ws) _ (by rw [List.length_cons, Hbl.out]; omega) H3.out.pla).mono ?_
  rintro e w4 ⟨rfl, hg4⟩
  have H4 := Lib.hid (H3.out.grow hg4)
  clear hg4 had
  generalize ofE (104 :: bytesE ws) = y1 at *
  go_wp2_with fail
  refine (of_c [104, 101, 97, 100] _ (by simp) H4.out.pla).mono ?_
  rintro e w5 ⟨rfl, hg5⟩
  have H5 := Lib.hid (H4.out.grow hg5)
  clear hg5
  generalize ofE [104, 101, 97, 100] = y2 at *
  go_wp2_with fail
  refine (pair_c y1 y2 _ H5.out.pla).mono ?_
  rintro e w6 ⟨rfl, hg6⟩
  have H6 := Lib.hid (H5.out.grow hg6)
  have hR := H6.out.res
  clear hg6
  rw [← Hd.out]
  have sy := (hdE k r).sz
  have oy := (hdE k r).one
  generalize hy : hdE k r = y at *
  have Hy := Lib.hid hy
  clear hy
  go_wp2_with (refine wpList_store_row rfl 27 (.tmp 2) (.tmp 31) rfl (w.heap.size + 1) (us y.1) rfl rfl _ _ hR (by rw [sy]; kernel_rfl) (by rw [sy]; exact D.zero.sz) oy ?_)
  refine bodyPost_ret (results_cell_row (p := 2) (ty := 27) rfl _ _ (w.heap.size + 1) _ (us y.1) (0, 0) _ rfl (setRow_heap _ _ _ _ _ _ hR) Tryd.underlying27 rfl (by rw [sy]; kernel_rfl)) rfl ⟨by rw [Hy.out], ?_⟩
  exact H6.out.gro.setRow (by omega) _
theorem own_of_us {w : World} {b : Nat} {l : List UInt32} {n : Nat} (h : Blk w b 25 (us l)) (hl : l.length = n) (hn : n ≤ maxLen) {base : Nat} (hb : base ≤ b) : w.ownsRow base 25 1 (.slice (some ⟨b, 0, none⟩) n n) n (l.map u) := by
  refine ⟨by simp [hl], .inr ⟨b, n, _, rfl, hb, h, Nat.le_refl _, hn, by simp [us, hl], ?_⟩⟩
  simp only [Nat.mul_one]
  exact List.take_of_length_le (by simp [us, hl])
set_option maxRecDepth 100000 in
set_option maxHeartbeats 2000000 in
theorem rhof_c (k : Int) (r : D) (w : World) (hk1 : -9223372036854775808 ≤ k) (hk2 : k ≤ 9223372036854775807) (hP : Places w) :
    Calls Tryd.prog 26 #[.agg (hdC k r)] w fun e w' => e = .returned (.agg (us (hdE k r).1)) ∧ Grow w w' := by
  have H0 := Lib.hid (HOAt.new k r hP)
  clear hP
  have K1 := Lib.hid hk1
  have K2 := Lib.hid hk2
  clear hk1 hk2
  go_enter Tryd.func26, Tryd.ntmps26
  go_upto_region 1 with (fail)
  refine wp_gen (fun W => HOAt w W k r) H0.out ?_
  clear H0
  intro w1 h1
  have c0 := (h1.box.cell 0).trans (hdC_get0 k r)
  have H1 := Lib.hid h1
  clear h1
  have e0 := hdM_eq k
  have Hd := Lib.hid (show hdE k r = pairE (ofE (104 :: bytesE (hdW k r))) (ofE [104, 101, 97, 100]) from rfl)
  have Hw := Lib.hid (show hdW k r = [UInt32.ofNat (hdM k), UInt32.ofNat (hdM k / 4294967296)] ++ r.1 from rfl)
  generalize hdW k r = ws at *
  generalize hdM k = m at *
  have ew : IntKind.u64.wrap ((m / 4294967296 : Nat) : Int) = ((m / 4294967296 : Nat) : Int) := by
    have hm : m < 18446744073709551616 := by
      have h1 : IntKind.u64.wrap k < 18446744073709551616 := by rw [IntKind.wrap_u64]; omega
      rw [e0] at h1
      omega
    rw [IntKind.wrap_u64]; omega
  have er : (m : Int).tmod 4294967296 = ((m % 4294967296 : Nat) : Int) := by rw [Int.tmod_eq_emod_of_nonneg (by omega)]; omega
  have elo : IntKind.u32.wrap ((m % 4294967296 : Nat) : Int) = ((UInt32.ofNat m).toNat : Int) := by
    rw [u32_ofNat_toNat]
    show (_ : Int) % 4294967296 = _
    omega
  have eh1 : (m : Int) / 4294967296 = ((m / 4294967296 : Nat) : Int) := by simp
  have ehi : IntKind.u32.wrap ((m / 4294967296 : Nat) : Int) = ((UInt32.ofNat (m / 4294967296)).toNat : Int) := by rw [u32_ofNat_toNat]; rfl
  generalize UInt32.ofNat m = lo at *
  generalize UInt32.ofNat (m / 4294967296) = hi at *
  generalize m / 4294967296 = mh at *
  generalize m % 4294967296 = ml at *
  go_upto_region 3 with (fail)
  obtain ⟨b4, hb4⟩ : ∃ b, b = w1.heap.size := ⟨_, rfl⟩
  have hga : Grow w1 (w1.alloc (.cells (us [lo, hi]) 25)) := (Grow.refl _).alloc (Nat.le_refl _) _
  obtain ⟨B, hBw⟩ : ∃ B, B = w1.heap.size := ⟨_, rfl⟩
  refine wp_gen (fun W => Grow w1 W ∧ W.ownsRow B 25 1 (.slice (some ⟨b4, 0, none⟩) 2 2) 2 ([lo, hi].map u)) ⟨hga, by rw [hb4, hBw]; exact own_of_us (l := [lo, hi]) (n := 2) (Blk.new _ _ _) rfl (by simp [maxLen]) (Nat.le_refl _)⟩ ?_
  rw [← hb4]
  clear hga hb4 c0 e0 elo ehi eh1 er ew
  intro w2 h2
  rw [hBw] at h2
  clear hBw
  have H2 := Lib.hid h2
  clear h2
  generalize Value.slice (some ⟨b4, 0, none⟩) 2 2 = v0 at *
  go_wp2_with fail
  go_loopw [4, 5] (fun v i wr => ∃ j : Nat, j ≤ 4 ∧ i = .int .i64 j ∧ Grow w1 wr ∧ wr.ownsRow w1.heap.size 25 1 v (2 + j) (([lo, hi] ++ r.1.take j).map u)) (fun _ i _ => 4 - (intOf i).toNat)
  case atStart => exact ⟨0, by omega, rfl, H2.out.1, by rw [List.take_zero, List.append_nil]; exact H2.out.2⟩
  case round =>
    obtain ⟨j, hj, rfl, hG, hO⟩ := hrel
    have HG := Lib.hid hG
    have HO := Lib.hid hO
    clear hG hO H2
    by_cases hlt : j < 4
    · have hj1 : decide ((j : Int) < 4) = true := by simp; omega
      have b1 : (0 : Int) ≤ j := by omega
      have b2 : (j : Int) < 4 := by omega
      have hcell := ((H1.out.box.grow HG.out).cell (1 + j)).trans (hdC_get k r j hlt)
      have Hs := Lib.hid (show [lo, hi] ++ r.1.take (j + 1) = ([lo, hi] ++ r.1.take j) ++ [r.1.getD j 0] by
        rw [List.take_succ_eq_append_getElem (by rw [r.2]; exact hlt), ← List.append_assoc]
        simp [List.getD, r.2, hlt])
      generalize r.1.getD j 0 = x at *
      generalize [lo, hi] ++ r.1.take j = l at *
      have hown := HO.out
      have hbase := HG.out.size
      go_wp2_with (at_builtin; refine wpList_append_new rfl (.tmp 20) (.tmp 25) 83 rfl w1.heap.size 25 (.int .u32 0) 1 4 Tryd.underlying83 info_u32g rfl (by omega) _ (2 + j) _ rfl hown 1 1 ([x].map u) rfl rfl (u_one _) (by simp only [maxLen]; omega) (by omega) hbase ?_; intro v' w3 hown' hbel' _)
      go_roundw
      case rel =>
        refine ⟨j + 1, by omega, by go_num, HG.out.trans hbel', ?_⟩
        rw [Hs.out, List.map_append, show 2 + (j + 1) = 2 + j + 1 by omega]
        exact hown'
      case measure => simp [intOf]; omega
    · have e : j = 4 := by omega
      subst e
      rw [List.take_of_length_le (by rw [r.2]; exact Nat.le_refl _), ← Hw.out] at HO
      have hwl : ws.length = 6 := by rw [Hw.out]; simp [r.2]
      have H3 := Lib.hid (H1.out.grow HG.out)
      obtain ⟨g, cap, hv⟩ : ∃ g cap, u4 = .slice (some ⟨g, 0, none⟩) 6 cap := by
        obtain ⟨_, h0 | ⟨g, cap, cur, hv, _⟩⟩ := HO.out
        · omega
        · exact ⟨g, cap, hv⟩
      subst hv
      have Hsl := Lib.hid (SlU.of_own HO.out)
      have Hwl := Lib.hid hwl
      have Hbl := Lib.hid (show (bytesE ws).length = 24 by rw [bytesE_length, hwl])
      clear hwl HO HG
      have had := fun W => run_string_add_lists (P := Tryd.prog) (w := W) [104] (bytesE ws) (by simp) (by rw [Hbl.out]; omega)
      go_wp2_with fail
      refine (rbytes_c ws _ 6 cap _ (by omega) Hsl.out).mono ?_
      rintro e w3 ⟨rfl, hg3⟩
      have H4 := Lib.hid (H3.out.grow hg3)
      clear hg3
      go_wp2_with fail
      refine (rof_c (104 :: bytesE ws) _ (by rw [List.length_cons, Hbl.out]; omega)).mono ?_
      rintro e w4 ⟨rfl, hg4⟩
      have H5 := Lib.hid (H4.out.grow hg4)
      clear hg4 had
      generalize ofE (104 :: bytesE ws) = y1 at *
      go_wp2_with fail
      refine (rof_c [104, 101, 97, 100] _ (by simp)).mono ?_
      rintro e w5 ⟨rfl, hg5⟩
      have H6 := Lib.hid (H5.out.grow hg5)
      clear hg5
      generalize ofE [104, 101, 97, 100] = y2 at *
      go_wp2_with fail
      refine (rpair_c y1 y2 _).mono ?_
      rintro e w6 ⟨rfl, hg6⟩
      have H7 := Lib.hid (H6.out.grow hg6)
      have hR := H7.out.res
      clear hg6
      rw [← Hd.out]
      have sy := (hdE k r).sz
      have oy := (hdE k r).one
      generalize hy : hdE k r = y at *
      have Hy := Lib.hid hy
      clear hy
      go_wp2_with (refine wpList_store_row rfl 27 (.tmp 2) (.tmp 32) rfl (w.heap.size + 1) (us y.1) rfl rfl _ _ hR (by rw [sy]; kernel_rfl) (by rw [sy]; exact D.zero.sz) oy ?_)
      refine bodyPost_ret (results_cell_row (p := 2) (ty := 27) rfl _ _ (w.heap.size + 1) _ (us y.1) (0, 0) _ rfl (setRow_heap _ _ _ _ _ _ hR) Tryd.underlying27 rfl (by rw [sy]; kernel_rfl)) rfl ⟨by rw [Hy.out], ?_⟩
      exact H7.out.gro.setRow (by omega) _
end Go.Proofs.YtamllmoakgnjoaaDoor
