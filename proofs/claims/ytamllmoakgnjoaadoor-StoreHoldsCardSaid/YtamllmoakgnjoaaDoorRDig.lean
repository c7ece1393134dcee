/- seedcornref03.Of: the digest of bytes. -/
import Derived.Test.YtamllmoakgnjoaaDoorRWords
namespace Go.Proofs.YtamllmoakgnjoaaDoor
open Go.RowKit
theorem SlU.setRow {w : World} {g o n c : Nat} {l : List UInt32} (h : SlU w (some ⟨g, o, none⟩) n c l) {b : Nat} (hne : g ≠ b) (cs : Array Value) : SlU (w.setRow b cs) (some ⟨g, o, none⟩) n c l := by
  obtain ⟨h1, h2, h3, h4⟩ := h
  refine ⟨h1, h2, h3, fun hn => ?_⟩
  obtain ⟨g', o', e, hl, hc⟩ := h4 hn
  injection e with e
  injection e with e1 e2 _
  subst e1 e2
  exact ⟨_, _, rfl, by simpa using hl, fun i hi => (cell_setRow_other w b cs ⟨g, o + i, none⟩ hne).trans (hc i hi)⟩
theorem SlU.at {w : World} {g o n c : Nat} {l : List UInt32} (h : SlU w (some ⟨g, o, none⟩) n c l) (i : Nat) (hi : i < n) : w.cell? ⟨g, o + i, none⟩ = some (u (l.getD i 0)) := by
  obtain ⟨g', o', e, _, hc⟩ := h.2.2.2 (by omega)
  injection e with e
  injection e with e1 e2 _
  subst e1 e2
  exact hc i hi
theorem SlU.of_own {w : World} {base n g cap : Nat} {e : TypeId} {l : List UInt32} (h : w.ownsRow base e 1 (.slice (some ⟨g, 0, none⟩) n cap) n (l.map u)) : SlU w (some ⟨g, 0, none⟩) n cap l := by
  have hs := Sl.of_own h
  obtain ⟨A, c, hv, h1, h2, h3, h4⟩ := hs
  injection hv with e1 e2 e3
  subst e1 e3
  refine ⟨h1, h2, by simpa using h3, fun hn => ?_⟩
  rcases h4 with h4 | ⟨g', o', e4, h5, h6⟩
  · omega
  · refine ⟨g', o', e4, h5, fun i hi => h6 i _ ?_⟩
    have hl : l.length = n := by simpa using h3
    simp [List.getD, List.getElem?_eq_getElem (show i < l.length by omega)]
structure RDAt (w0 w : World) (g n c b8 : Nat) (ws x : List UInt32) : Prop where
  res : Blk w w0.heap.size 27 (us D.zero.1)
  box : Blk w b8 91 (us x)
  sl : SlU w (some ⟨g, 0, none⟩) n c ws
  gro : Grow w0 w
  hne : g ≠ b8
  hb8 : w0.heap.size < b8
theorem RDAt.grow {w0 w w' : World} {g n c b8 : Nat} {ws x : List UInt32} (h : RDAt w0 w g n c b8 ws x) (hg : Grow w w') : RDAt w0 w' g n c b8 ws x :=
  ⟨h.res.grow hg, h.box.grow hg, h.sl.grow hg, h.gro.tr hg, h.hne, h.hb8⟩
theorem RDAt.store {w0 w : World} {g n c b8 : Nat} {ws x y : List UInt32} (h : RDAt w0 w g n c b8 ws x) : RDAt w0 (w.setRow b8 (us y)) g n c b8 ws y :=
  ⟨h.res.setRow_far (by have := h.hb8; omega) _, h.box.setRow _, h.sl.setRow h.hne _, h.gro.setRow (by have := h.hb8; omega) _, h.hne, h.hb8⟩
theorem rzeros_not (n z : Nat) (h : z < zerosE n) : (n + 1 + z) % 16 ≠ 8 := by unfold zerosE at h; omega
set_option maxRecDepth 100000 in
set_option maxHeartbeats 2000000 in
theorem rof_c (l : List UInt8) (w : World) (hm : l.length ≤ 1000000) :
    Calls Tryd.prog 62 #[.string ⟨l.toArray⟩] w fun e w' => e = .returned (.agg (us (ofE l).1)) ∧ Grow w w' := by
  have hsz : (ByteArray.mk l.toArray).size = l.length := by simp [ByteArray.size]
  have ha1 := fun W => run_string_add_lists (P := Tryd.prog) (w := W) l [128] (by omega) (by simp)
  go_enter Tryd.func62, Tryd.ntmps62
  go_upto_region 1 with (fail)
  refine wp_gen (fun W => Blk W w.heap.size 27 (us D.zero.1) ∧ Grow w W) ⟨Blk.new _ _ _, (Grow.refl _).alloc (Nat.le_refl _) _⟩ ?_
  intro w1 h1
  have H1 := Lib.hid h1
  clear h1
  go_wp2_with fail
  clear ha1
  obtain ⟨zn, hzn⟩ : ∃ z, z = zerosE l.length := ⟨_, rfl⟩
  have hzb : zn < 16 := by rw [hzn]; exact zerosE_lt _
  have Hzn := Lib.hid hzn
  clear hzn
  have Hsz := Lib.hid hsz
  clear hsz
  go_loop [0] (fun v => ∃ z, z ≤ zn ∧ v = .string ⟨(l ++ [128] ++ List.replicate z 0).toArray⟩) (fun v => l.length + 1 + zn - (match v with | .string s => s.size | _ => 0))
  case atStart => exact ⟨0, by omega, by rw [List.replicate_zero, List.append_nil]⟩
  case round =>
    obtain ⟨z, hz, rfl⟩ := hrel
    have hbl : (l ++ [128] ++ List.replicate z (0 : UInt8)).length = l.length + 1 + z := by simp; omega
    by_cases hlt : z < zn
    · have hrs : l ++ [128] ++ List.replicate (z + 1) (0 : UInt8) = (l ++ [128] ++ List.replicate z 0) ++ [0] := by rw [List.replicate_succ', ← List.append_assoc]
      have Hrs := Lib.hid hrs
      clear hrs
      have t2 : (((l.length + 1 + z) % 16 : Nat) : Int) ≠ 8 := by have := rzeros_not l.length z (by rw [← Hzn.out]; exact hlt); omega
      generalize l ++ [128] ++ List.replicate z 0 = B at *
      obtain ⟨n, hn⟩ : ∃ n, n = l.length + 1 + z := ⟨_, rfl⟩
      rw [← hn] at hbl t2
      obtain ⟨r, hr⟩ : ∃ r, r = n % 16 := ⟨_, rfl⟩
      rw [← hr] at t2
      have hbs : (ByteArray.mk B.toArray).size = n := by simp [ByteArray.size, hbl]
      have Hbs := Lib.hid hbs
      have hnb : n ≤ 1000020 := by omega
      have t1 : (n : Int).tmod 16 = (r : Int) := by rw [Int.tmod_eq_emod_of_nonneg (by omega)]; omega
      have t3 : ((r : Int) != 8) = true := by simpa using t2
      have ha2 := fun W => run_string_add_lists (P := Tryd.prog) (w := W) B [0] (by rw [hbl]; omega) (by simp)
      have Hn := Lib.hid hn
      clear hn hr t2 hbl
      go_wp2_with fail
      go_round
      case rel => exact ⟨z + 1, by omega, by rw [Hrs.out]⟩
      case measure =>
        have h1 := Hn.out
        have h2 := Hbs.out
        simp only [ByteArray.size, List.size_toArray, List.length_append, List.length_singleton] at h2 ⊢
        omega
    · have e : z = zn := by omega
      subst e
      have Hfr := Lib.hid (show l ++ [128] ++ List.replicate z 0 = frameE l by unfold frameE; rw [Hzn.out])
      rw [Hfr.out] at hbl ⊢
      have h8 := zerosE_spec l.length
      rw [← Hzn.out] at h8
      obtain ⟨n, hn⟩ : ∃ n, n = l.length + 1 + z := ⟨_, rfl⟩
      rw [← hn] at hbl h8
      have hbs : (ByteArray.mk (frameE l).toArray).size = n := by simp [ByteArray.size, hbl]
      have hnb : n ≤ 1000020 := by omega
      obtain ⟨r, hr⟩ : ∃ r, r = n % 16 := ⟨_, rfl⟩
      have t1 : (n : Int).tmod 16 = (r : Int) := by rw [Int.tmod_eq_emod_of_nonneg (by omega)]; omega
      have t3 : ((r : Int) != 8) = false := by have : r = 8 := by omega
                                               subst this; decide
      obtain ⟨q, hq⟩ : ∃ q, n = 4 * q := ⟨n / 4, by omega⟩
      obtain ⟨m, hm4⟩ : ∃ m, q + 2 = 4 * m := ⟨(q + 2) / 4, by omega⟩
      have Hpl := Lib.hid (show (padE l).length / 16 = m by rw [padE_length, ← Hzn.out]; omega)
      have Hpw := Lib.hid (fun i hi => padE_words l q i (by omega) (by rw [hbl, hq]) hi)
      have hq4 : (frameE l).length = 4 * q := by rw [hbl, hq]
      have Hwl := Lib.hid (wordsOf_length (frameE l) q)
      have Hbl := Lib.hid hbl
      have Hm4 := Lib.hid hm4
      have hqb : q ≤ 300000 := by omega
      clear hn hr h8 hbl hq hm4
      have elo : IntKind.u32.wrap (l.length : Int) = ((UInt32.ofNat l.length).toNat : Int) := by rw [u32_ofNat_toNat]; rfl
      have eh1 : (l.length : Int) / 4294967296 = ((l.length / 4294967296 : Nat) : Int) := by simp
      have ehi : IntKind.u32.wrap ((l.length / 4294967296 : Nat) : Int) = ((UInt32.ofNat (l.length / 4294967296)).toNat : Int) := by rw [u32_ofNat_toNat]; rfl
      generalize UInt32.ofNat l.length = lo at *
      generalize UInt32.ofNat (l.length / 4294967296) = hi at *
      generalize l.length / 4294967296 = lh at *
      go_wp2_with fail
      refine (rwords_c (frameE l) q _ hq4 (by rw [Hbl.out]; omega)).mono ?_
      rintro e w2 ⟨v, rfl, hW2⟩
      have hown := hW2.own
      rw [Hwl.out] at hown
      have H2 := Lib.hid (And.intro (H1.out.1.grow hW2.gro) (H1.out.2.tr hW2.gro))
      have hbase := hW2.gro.size
      clear hW2 t1 t3 hbs hq4
      generalize hwd : wordsOf (frameE l) q = ws at *
      have Hwd := Lib.hid hwd
      clear hwd
      go_upto_region 7 with  (at_builtin; refine wpList_append_new rfl (.tmp 24) (.tmp 30) 83 rfl w1.heap.size 25 (.int .u32 0) 1 4 Tryd.underlying83 info_u32g rfl (by omega) _ q _ rfl hown 2 2 ([lo, hi].map u) rfl rfl (u_one _) (by simp only [maxLen]; omega) (by omega) hbase ?_; intro v' w3 hown' hbel' _)
      have hown2 : w3.ownsRow w1.heap.size 25 1 v' (q + 2) ((ws ++ [lo, hi]).map u) := by rw [List.map_append]; exact hown'
      obtain ⟨g, cap, hv', hglt⟩ : ∃ g cap, v' = .slice (some ⟨g, 0, none⟩) (q + 2) cap ∧ g < w3.heap.size := by
        obtain ⟨_, h0 | ⟨g, cap, cur, hv, _, hgc, _⟩⟩ := hown'
        · omega
        · exact ⟨g, cap, hv, Blk.lt hgc⟩
      subst hv'
      have Hsl := Lib.hid (SlU.of_own hown2)
      have hgr3 : Grow w w3 := H2.out.2.trans (hbel'.mono H1.out.2.size)
      have hres3 := H2.out.1.below hbel' H1.out.1.lt
      clear hown' hown2 hbel' hown hbase
      have hga : Grow w3 (w3.alloc (.cells (us [1, 0, 0, 0, 0, 0, 0, 0]) 91)) := (Grow.refl _).alloc (Nat.le_refl _) _
      have HR3 := Lib.hid hres3
      have HG3 := Lib.hid hgr3
      have hl3 : w.heap.size < w3.heap.size := hres3.lt
      clear hres3 hgr3 eh1 elo ehi
      go_upto_region 8 with (fail)
      obtain ⟨b8, hb8⟩ : ∃ b, b = w3.heap.size := ⟨_, rfl⟩
      refine wp_gen (fun W => RDAt w W g (q + 2) cap b8 (ws ++ [lo, hi]) (absE (padE l) 0)) ⟨HR3.out.grow hga, hb8 ▸ Blk.new _ _ _, Hsl.out.grow hga, HG3.out.tr hga, by omega, by omega⟩ ?_
      rw [← hb8]
      clear hga hb8 HR3 HG3 Hsl hl3 hglt
      intro w4 h4
      have H4 := Lib.hid h4
      have hcap := h4.sl.1
      clear h4
      have HLn := Lib.hid (fun j => absE_length (padE l) j)
      have Hbk := Lib.hid (fun j (hj : j < m) => show blkE (padE l) (16 * j) = ⟨[(ws ++ [lo, hi]).getD (4 * j) 0, (ws ++ [lo, hi]).getD (4 * j + 1) 0, (ws ++ [lo, hi]).getD (4 * j + 2) 0, (ws ++ [lo, hi]).getD (4 * j + 3) 0], rfl⟩ from by
        have h4 := Hm4.out
        rw [Hpw.out (4 * j) (by omega), Hpw.out (4 * j + 1) (by omega), Hpw.out (4 * j + 2) (by omega), Hpw.out (4 * j + 3) (by omega)]
        unfold blkE
        simp only [show 4 * (4 * j) = 16 * j by omega, show 4 * (4 * j + 1) = 16 * j + 4 by omega, show 4 * (4 * j + 2) = 16 * j + 8 by omega, show 4 * (4 * j + 3) = 16 * j + 12 by omega])
      have Hend := Lib.hid (show front (absE (padE l) m) = (ofE l).1 by unfold ofE; rw [Hpl.out])
      generalize hwv : ws ++ [lo, hi] = wv at *
      clear hwv Hpw
      obtain ⟨N, hN⟩ : ∃ N, N = q + 2 := ⟨_, rfl⟩
      rw [← hN] at H4 hcap Hm4 ⊢
      have hNb : N ≤ 300002 := by omega
      clear hN
      go_wp2_with fail
      go_loopw [7] (fun i W => ∃ j : Nat, j ≤ m ∧ i = .int .i64 (4 * (j : Int)) ∧ RDAt w W g N cap b8 wv (absE (padE l) j)) (fun i _ => N - (intOf i).toNat)
      case atStart => exact ⟨0, by omega, rfl, H4.out⟩
      case round =>
        obtain ⟨j, hj, rfl, hM⟩ := hrel
        have HM := Lib.hid hM
        clear hM H4
        by_cases hlt : j < m
        · have hj1 : decide (4 * (j : Int) < (N : Int)) = true := by have := Hm4.out; simp; omega
          have hjN : 4 * j + 4 ≤ N := by have := Hm4.out; omega
          have HL := Lib.hid (HLn.out j)
          have hbj := Hbk.out j hlt
          have Hs := Lib.hid (show absE (padE l) (j + 1) = takeIn (absE (padE l) j) (blkE (padE l) (16 * j)).1 from rfl)
          rw [hbj] at Hs
          clear hbj
          have hsx : (us (absE (padE l) j)).size = 8 := by simp [us, absE_length]
          have Hsx := Lib.hid hsx
          clear hsx
          generalize absE (padE l) j = x at *
          obtain ⟨p, hp⟩ : ∃ p, p = 4 * j := ⟨_, rfl⟩
          have hpN : p + 4 ≤ N := by omega
          have e0 : 4 * (j : Int) = (p : Int) := by omega
          have e1 : IntKind.i64.wrap ((p : Int) + 1) = ((p + 1 : Nat) : Int) := by rw [IntKind.wrap_i64]; omega
          have e2 : IntKind.i64.wrap ((p : Int) + 2) = ((p + 2 : Nat) : Int) := by rw [IntKind.wrap_i64]; omega
          have e3 : IntKind.i64.wrap ((p : Int) + 3) = ((p + 3 : Nat) : Int) := by rw [IntKind.wrap_i64]; omega
          rw [← hp] at Hs hjN
          have Hp := Lib.hid hp
          clear hp
          have b0 : (0 : Int) ≤ (p : Int) := by omega
          have b1 : (p : Int) < N := by omega
          have b2 : 0 ≤ (p : Int) + 1 ∧ (p : Int) + 1 < N := by omega
          have b3 : 0 ≤ (p : Int) + 2 ∧ (p : Int) + 2 < N := by omega
          have b4 : 0 ≤ (p : Int) + 3 ∧ (p : Int) + 3 < N := by omega
          have n2 : ((p : Int) + 2).toNat = p + 2 := by omega
          have n3 : ((p : Int) + 3).toNat = p + 3 := by omega
          have f0 := Lib.hid (fun W (hW : RDAt w W g N cap b8 wv x) => hW.sl.at p (by omega))
          have f1 := Lib.hid (fun W (hW : RDAt w W g N cap b8 wv x) => hW.sl.at (p + 1) (by omega))
          have f2 := Lib.hid (fun W (hW : RDAt w W g N cap b8 wv x) => hW.sl.at (p + 2) (by omega))
          have f3 := Lib.hid (fun W (hW : RDAt w W g N cap b8 wv x) => hW.sl.at (p + 3) (by omega))
          simp only [Nat.zero_add] at f0 f1 f2 f3
          generalize wv.getD p 0 = y0 at *
          generalize wv.getD (p + 1) 0 = y1 at *
          generalize wv.getD (p + 2) 0 = y2 at *
          generalize wv.getD (p + 3) 0 = y3 at *
          have rt := Lib.hid (fun W => rtake_any x [y0, y1, y2, y3] HL.out rfl W)
          have hly : (takeIn x [y0, y1, y2, y3]).length = 8 := (takeIn_length _ _).trans HL.out
          have hsy : (us (takeIn x [y0, y1, y2, y3])).size = 8 := by simp [us, hly]
          have hony := us_one (takeIn x [y0, y1, y2, y3])
          simp only at Hs
          generalize hy : takeIn x [y0, y1, y2, y3] = y at *
          clear hly hy
          go_upto_region 11 with (fail)
          refine wp_region_tail 22 (fun W => RDAt w W g N cap b8 wv x) (by kernel_rfl) (by kernel_rfl) (HM.out.grow (Grow.refl _).drew) ?_
          simp only [List.take_succ_cons, List.take_zero]
          refine quiet_load_row rfl 91 (.tmp 6) rfl (b8) rfl _ ((us x)) (0, 0) _ (fun W hW => hW.box) Tryd.underlying91 rfl (by rw [Hsx.out]; kernel_rfl) ?_
          simp only [Act.put, List.setIfInBounds_toArray, List.set_cons_zero, List.set_cons_succ]
          (refine quiet_ex rfl ?_; apply Exists.intro; refine ⟨fun W hW => ?_, ?_⟩)
          · go_simp; try with_reducible rfl
          simp only [Act.put, List.setIfInBounds_toArray, List.set_cons_zero, List.set_cons_succ]
          (refine quiet_ex rfl ?_; apply Exists.intro; refine ⟨fun W hW => ?_, ?_⟩)
          · go_simp; try with_reducible rfl
          simp only [Act.put, List.setIfInBounds_toArray, List.set_cons_zero, List.set_cons_succ]
          (refine quiet_ex rfl ?_; apply Exists.intro; refine ⟨fun W hW => ?_, ?_⟩)
          · go_simp; try with_reducible rfl
          simp only [Act.put, List.setIfInBounds_toArray, List.set_cons_zero, List.set_cons_succ]
          (refine quiet_ex rfl ?_; apply Exists.intro; refine ⟨fun W hW => ?_, ?_⟩)
          · have c := f0.out W hW; go_simp; try with_reducible rfl
          simp only [Act.put, List.setIfInBounds_toArray, List.set_cons_zero, List.set_cons_succ]
          (refine quiet_ex rfl ?_; apply Exists.intro; refine ⟨fun W hW => ?_, ?_⟩)
          · go_simp; try with_reducible rfl
          simp only [Act.put, List.setIfInBounds_toArray, List.set_cons_zero, List.set_cons_succ]
          (refine quiet_ex rfl ?_; apply Exists.intro; refine ⟨fun W hW => ?_, ?_⟩)
          · go_simp; try with_reducible rfl
          simp only [Act.put, List.setIfInBounds_toArray, List.set_cons_zero, List.set_cons_succ]
          (refine quiet_ex rfl ?_; apply Exists.intro; refine ⟨fun W hW => ?_, ?_⟩)
          · go_simp; try with_reducible rfl
          simp only [Act.put, List.setIfInBounds_toArray, List.set_cons_zero, List.set_cons_succ]
          (refine quiet_ex rfl ?_; apply Exists.intro; refine ⟨fun W hW => ?_, ?_⟩)
          · go_simp; try with_reducible rfl
          simp only [Act.put, List.setIfInBounds_toArray, List.set_cons_zero, List.set_cons_succ]
          (refine quiet_ex rfl ?_; apply Exists.intro; refine ⟨fun W hW => ?_, ?_⟩)
          · have c := f1.out W hW; go_simp; try with_reducible rfl
          simp only [Act.put, List.setIfInBounds_toArray, List.set_cons_zero, List.set_cons_succ]
          (refine quiet_ex rfl ?_; apply Exists.intro; refine ⟨fun W hW => ?_, ?_⟩)
          · go_simp; try with_reducible rfl
          simp only [Act.put, List.setIfInBounds_toArray, List.set_cons_zero, List.set_cons_succ]
          (refine quiet_ex rfl ?_; apply Exists.intro; refine ⟨fun W hW => ?_, ?_⟩)
          · go_simp; try with_reducible rfl
          simp only [Act.put, List.setIfInBounds_toArray, List.set_cons_zero, List.set_cons_succ]
          (refine quiet_ex rfl ?_; apply Exists.intro; refine ⟨fun W hW => ?_, ?_⟩)
          · go_simp; try with_reducible rfl
          simp only [Act.put, List.setIfInBounds_toArray, List.set_cons_zero, List.set_cons_succ]
          (refine quiet_ex rfl ?_; apply Exists.intro; refine ⟨fun W hW => ?_, ?_⟩)
          · go_simp; try with_reducible rfl
          simp only [Act.put, List.setIfInBounds_toArray, List.set_cons_zero, List.set_cons_succ]
          (refine quiet_ex rfl ?_; apply Exists.intro; refine ⟨fun W hW => ?_, ?_⟩)
          · have c := f2.out W hW; go_simp; try with_reducible rfl
          simp only [Act.put, List.setIfInBounds_toArray, List.set_cons_zero, List.set_cons_succ]
          (refine quiet_ex rfl ?_; apply Exists.intro; refine ⟨fun W hW => ?_, ?_⟩)
          · go_simp; try with_reducible rfl
          simp only [Act.put, List.setIfInBounds_toArray, List.set_cons_zero, List.set_cons_succ]
          (refine quiet_ex rfl ?_; apply Exists.intro; refine ⟨fun W hW => ?_, ?_⟩)
          · go_simp; try with_reducible rfl
          simp only [Act.put, List.setIfInBounds_toArray, List.set_cons_zero, List.set_cons_succ]
          (refine quiet_ex rfl ?_; apply Exists.intro; refine ⟨fun W hW => ?_, ?_⟩)
          · go_simp; try with_reducible rfl
          simp only [Act.put, List.setIfInBounds_toArray, List.set_cons_zero, List.set_cons_succ]
          (refine quiet_ex rfl ?_; apply Exists.intro; refine ⟨fun W hW => ?_, ?_⟩)
          · go_simp; try with_reducible rfl
          simp only [Act.put, List.setIfInBounds_toArray, List.set_cons_zero, List.set_cons_succ]
          (refine quiet_ex rfl ?_; apply Exists.intro; refine ⟨fun W hW => ?_, ?_⟩)
          · have c := f3.out W hW; go_simp; try with_reducible rfl
          simp only [Act.put, List.setIfInBounds_toArray, List.set_cons_zero, List.set_cons_succ]
          (refine quiet_ex rfl ?_; apply Exists.intro; refine ⟨fun W hW => ?_, ?_⟩)
          · go_simp; try with_reducible rfl
          simp only [Act.put, List.setIfInBounds_toArray, List.set_cons_zero, List.set_cons_succ]
          (refine quiet_at rfl ⟨.agg (us y), fun W hW => ?_, ?_⟩)
          · go_simp; exact (rt.out _).mono (fun e w' h => ⟨h.1, hW.grow h.2⟩)
          simp only [Act.put, List.setIfInBounds_toArray, List.set_cons_zero, List.set_cons_succ]
          refine wpQuiet_nil ?_
          intro w5 h5
          have hB := h5.box
          have H5 := Lib.hid h5
          clear h5
          simp only [List.drop_succ_cons, List.drop_zero]
          go_wp2_with (refine wpList_store_row rfl 91 (.tmp 6) (.tmp 60) rfl (b8) (us y) rfl rfl _ _ hB (by rw [hsy]; kernel_rfl) (by rw [hsy, Hsx.out]) hony ?_)
          go_roundw
          case rel => exact ⟨j + 1, by omega, by have := Hp.out; go_num, by rw [Hs.out]; exact H5.out.store⟩
          case measure => have := Hp.out; simp [intOf]; omega
        · have e : j = m := by omega
          subst e
          have hj1 : decide (4 * (j : Int) < (N : Int)) = false := by have := Hm4.out; simp; omega
          have hR := HM.out.res
          have HL := HLn.out j
          have hB := HM.out.box
          have hl8 := hB.lt
          generalize absE (padE l) j = x at *
          have c0 := (hB.cell 0).trans (us_get x 0 (by rw [HL]; omega))
          have c1 := (hB.cell 1).trans (us_get x 1 (by rw [HL]; omega))
          have c2 := (hB.cell 2).trans (us_get x 2 (by rw [HL]; omega))
          have c3 := (hB.cell 3).trans (us_get x 3 (by rw [HL]; omega))
          have HB := Lib.hid hB
          clear hB HL
          unfold front at Hend
          generalize x.getD 0 0 = x0 at *
          generalize x.getD 1 0 = x1 at *
          generalize x.getD 2 0 = x2 at *
          generalize x.getD 3 0 = x3 at *
          have hone := us_one [x0, x1, x2, x3]
          have hs4 : (us [x0, x1, x2, x3]).size = 4 := by simp [us]
          go_wp2_with (refine wpList_store_row rfl 27 (.tmp 2) (.tmp 69) rfl w.heap.size (us [x0, x1, x2, x3]) rfl rfl 27 _ hR (by rw [hs4]; kernel_rfl) (by rw [hs4]; rfl) hone ?_)
          refine bodyPost_ret (results_cell_row (p := 2) (ty := 27) rfl _ _ w.heap.size 27 (us [x0, x1, x2, x3]) (0, 0) _ rfl (setRow_heap _ _ _ _ _ _ hR) Tryd.underlying27 rfl (by rw [hs4]; kernel_rfl)) rfl ⟨by rw [← Hend.out], ?_⟩
          exact HM.out.gro.setRow (Nat.le_refl _) _
end Go.Proofs.YtamllmoakgnjoaaDoor
