/- onetime.Ahead: what it returns is aheadE; the heap only grows. -/
import Derived.Test.YtolkeknbhfnefaaDoorRSign
namespace Go.Proofs.YtolkeknbhfnefaaDoor
open Go.RowKit
theorem firstFrom_hit (p : Nat → Bool) (k n : Nat) (h : p k = true) : firstFrom p k (n + 1) = some k := by simp [firstFrom, h]
theorem firstFrom_miss (p : Nat → Bool) (k n : Nat) (h : p k = false) : firstFrom p k (n + 1) = firstFrom p (k + 1) n := by simp [firstFrom, h]
structure AhAt (w wr : World) (msg other : D) (A B : Option Addr) (n c m c' : Nat) (s t : List D) : Prop where
  one : Blk wr w.heap.size 24 (us msg.1)
  two : Blk wr (w.heap.size + 1) 24 (us other.1)
  res : Blk wr (w.heap.size + 1 + 1) 24 (us D.zero.1)
  sa : SlD wr A n c s
  sb : SlD wr B m c' t
  gro : Grow w wr
  pla : Places wr
theorem AhAt.grow {w wr w' : World} {msg other : D} {A B : Option Addr} {n c m c' : Nat} {s t : List D} (h : AhAt w wr msg other A B n c m c' s t) (hg : Grow wr w') : AhAt w w' msg other A B n c m c' s t :=
  ⟨h.one.grow hg, h.two.grow hg, h.res.grow hg, h.sa.grow hg, h.sb.grow hg, h.gro.tr hg, h.pla.grow hg⟩
structure AhIn (w wr : World) (msg other : D) (A B : Option Addr) (c c' ga ca gb cb b : Nat) (s t : List D) : Prop where
  at_ : AhAt w wr msg other A B 35 c 35 c' s t
  st : wr.ownsRow 0 3 1 (.slice (some ⟨ga, 0, none⟩) 35 ca) 35 (ints (stepsE msg))
  so : wr.ownsRow 0 3 1 (.slice (some ⟨gb, 0, none⟩) 35 cb) 35 (ints (stepsE other))
  al : Blk wr b 24 (us oneE.1)
theorem AhIn.grow {w wr w' : World} {msg other : D} {A B : Option Addr} {c c' ga ca gb cb b : Nat} {s t : List D} (h : AhIn w wr msg other A B c c' ga ca gb cb b s t) (hg : Grow wr w') : AhIn w w' msg other A B c c' ga ca gb cb b s t :=
  ⟨h.at_.grow hg, ownsRow_grow h.st hg, ownsRow_grow h.so hg, h.al.grow hg⟩
set_option maxRecDepth 100000 in
set_option maxHeartbeats 4000000 in
theorem ahead_c (msg other : D) (A B : Option Addr) (c c' : Nat) (s t : List D) (w : World) (hP : Places w) (hs : SlD w A 35 c s) (ht : SlD w B 35 c' t) :
    Calls Tryd.prog 15 #[.agg (us msg.1), .slice A 35 c, .agg (us other.1), .slice B 35 c'] w fun e w' =>
      e = .returned (.tuple #[.int .i64 ((aheadE msg s other t).1 : Int), .agg (us (aheadE msg s other t).2.1.1), .bool (aheadE msg s other t).2.2]) ∧ Grow w w' := by
  have hae : aheadE msg s other t = match firstFrom (shows msg s other t) 0 35 with | some i => (i, t.getD i D.zero, true) | none => (0, D.zero, false) := by
    unfold aheadE; rw [if_pos ⟨hs.2.2.1, ht.2.2.1⟩]; cases firstFrom (shows msg s other t) 0 35 <;> rfl
  have Hae := Lib.hid hae
  clear hae
  generalize aheadE msg s other t = res at *
  have HP := Lib.hid hP
  have HS := Lib.hid hs
  have HT := Lib.hid ht
  clear hP hs ht
  have h35 : (((35 : Nat) : Int) != 35) = false := by decide
  have S1 := Lib.hid msg.sz
  have S2 := Lib.hid other.sz
  go_enter Tryd.func15, Tryd.ntmps15
  go_upto_region 1 with (fail)
  have hg0 := (((Below.refl w.heap.size w).alloc (Nat.le_refl _) (.cells (us msg.1) 24)).alloc (by simp) (.cells (us other.1) 24)).alloc (by simp; omega) (.cells (us D.zero.1) 24)
  refine wp_gen (fun W => AhAt w W msg other A B 35 c 35 c' s t) ⟨((Blk.new _ _ _).alloc _).alloc _, (Blk.new1 _ _ _ _).alloc _, Blk.new2 _ _ _ _ _, HS.out.grow hg0, HT.out.grow hg0, hg0, HP.out.grow hg0⟩ ?_
  clear hg0
  intro w1 h1
  have H1 := Lib.hid h1
  clear h1
  go_wp2_with fail
  refine (along_c _).mono ?_
  rintro e w2 ⟨⟨v, rfl, b, rfl, hb⟩, hg⟩
  have Hb := Lib.hid hb
  have H2 := Lib.hid (H1.out.grow hg)
  clear hb hg
  go_upto_region 4 with (fail)
  refine wp_region_anyC 4 (fun W => AhAt w W msg other A B 35 c 35 c' s t ∧ Blk W b 24 (us oneE.1)) (by kernel_rfl) (by kernel_rfl) ⟨H2.out.grow (Grow.refl _).drew, Hb.out.drew⟩ ?_
  have hS := Stab.true_
  refine anyC_load_row (i := 0) (some 25) rfl rfl (by kernel_rfl) (by assumption) rfl 24 (.tmp 4) rfl (w.heap.size) rfl _ ((us msg.1)) (0, 0) _ (fun W hW => hW.1.one) Tryd.underlying24 rfl (by rw [S1.out]; kernel_rfl) (fun _ _ _ h => h) ?_
  simp only [Act.put, List.setIfInBounds_toArray, List.set_cons_zero, List.set_cons_succ]
  refine anyC_load_row (i := 2) (some 27) rfl rfl (by kernel_rfl) (by assumption) rfl 24 (.tmp 6) rfl ((w.heap.size + 1)) rfl _ ((us other.1)) (0, 0) _ (fun W hW => hW.1.two) Tryd.underlying24 rfl (by rw [S2.out]; kernel_rfl) (fun _ _ _ h => h) ?_
  simp only [Act.put, List.setIfInBounds_toArray, List.set_cons_zero, List.set_cons_succ]
  refine anyC_one (i := 1) (by kernel_rfl) (fun W hW _ => ?_)
  refine wpOp_call (some 26) rfl rfl rfl (by go_simp) ((steps_c msg _).mono ?_)
  rintro e w3 ⟨va, rfl, hoa, hg3⟩
  obtain ⟨ga, ca, rfl, -, -, -, -⟩ := own_ints hoa (by omega)
  refine ⟨_, rfl, ⟨hW.1.grow hg3, hW.2.grow hg3⟩, (fun x => x.ownsRow 0 3 1 (.slice (some ⟨ga, 0, none⟩) 35 ca) 35 (ints (stepsE msg))), (fun _ _ h g => ownsRow_grow h g), ownsRow_base hoa (Nat.zero_le _), ?_⟩
  clear hoa hg3 hW
  simp only [Act.put, List.setIfInBounds_toArray, List.set_cons_zero, List.set_cons_succ]
  refine anyC_one (i := 3) (by kernel_rfl) (fun W hW hR => ?_)
  refine wpOp_call (some 28) rfl rfl rfl (by go_simp) ((steps_c other _).mono ?_)
  rintro e w4 ⟨vb, rfl, hob, hg4⟩
  obtain ⟨gb, cb, rfl, -, -, -, -⟩ := own_ints hob (by omega)
  refine ⟨_, rfl, ⟨hW.1.grow hg4, hW.2.grow hg4⟩, (fun x => x.ownsRow 0 3 1 (.slice (some ⟨ga, 0, none⟩) 35 ca) 35 (ints (stepsE msg)) ∧ x.ownsRow 0 3 1 (.slice (some ⟨gb, 0, none⟩) 35 cb) 35 (ints (stepsE other))), (fun _ _ h g => ⟨ownsRow_grow h.1 g, ownsRow_grow h.2 g⟩), ⟨ownsRow_grow hR hg4, ownsRow_base hob (Nat.zero_le _)⟩, ?_⟩
  clear hob hg4 hW hR
  simp only [Act.put, List.setIfInBounds_toArray, List.set_cons_zero, List.set_cons_succ]
  refine anyC_tail_lit (by kernel_rfl) (fun w5 h5 hR => ?_)
  simp only [List.drop_succ_cons, List.drop_zero]
  have HU := Lib.hid (AhIn.mk h5.1 hR.1 hR.2 h5.2 : AhIn w w5 msg other A B c c' ga ca gb cb b s t)
  clear h5 hR hS H1 H2 Hb h35
  go_wp2_with fail
  obtain ⟨gs, os_, rfl, hgs, -⟩ := HU.out.at_.sa.2.2.2 (by omega)
  obtain ⟨gt, ot, rfl, hgt, -⟩ := HU.out.at_.sb.2.2.2 (by omega)
  have hcs := Lib.hid HU.out.at_.sa.1
  have hct := Lib.hid HU.out.at_.sb.1
  go_loopw [14, 29] (fun _ i wr => ∃ j : Nat, j ≤ 35 ∧ i = .int .i64 j ∧ firstFrom (shows msg s other t) 0 35 = firstFrom (shows msg s other t) j (35 - j) ∧ AhIn w wr msg other (some ⟨gs, os_, none⟩) (some ⟨gt, ot, none⟩) c c' ga ca gb cb b s t) (fun _ i _ => 35 - (intOf i).toNat)
  case atStart => exact ⟨0, by omega, rfl, rfl, HU.out⟩
  case round =>
    obtain ⟨j, hj, rfl, hff, hN⟩ := hrel
    have HN := Lib.hid hN
    have HF := Lib.hid hff
    clear hN hff HU
    by_cases hlt : j < 35
    · have hj1 : decide ((j : Int) < 35) = true := by simp; omega
      have b1 : (0 : Int) ≤ j := by omega
      have b2 : (j : Int) < 35 := by omega
      have fm := Lib.hid (fun W (hW : AhIn w W msg other (some ⟨gs, os_, none⟩) (some ⟨gt, ot, none⟩) c c' ga ca gb cb b s t) => own_ints_lit hW.st (by omega) W (Grow.refl _) j hlt)
      have fo := Lib.hid (fun W (hW : AhIn w W msg other (some ⟨gs, os_, none⟩) (some ⟨gt, ot, none⟩) c c' ga ca gb cb b s t) => own_ints_lit hW.so (by omega) W (Grow.refl _) j hlt)
      have fs := Lib.hid (fun W (hW : AhIn w W msg other (some ⟨gs, os_, none⟩) (some ⟨gt, ot, none⟩) c c' ga ca gb cb b s t) => (show ∀ k, k < 4 → W.cell? ⟨gs, os_ + j * 4 + k, none⟩ = some (u ((s.getD j D.zero).1.getD k 0)) by
        obtain ⟨g', o', e, _, hc⟩ := hW.at_.sa.2.2.2 (by omega)
        injection e with e
        injection e with e1 e2 _
        subst e1 e2
        exact fun k hk => hc j k hlt hk))
      have ft := Lib.hid (fun W (hW : AhIn w W msg other (some ⟨gs, os_, none⟩) (some ⟨gt, ot, none⟩) c c' ga ca gb cb b s t) => (show ∀ k, k < 4 → W.cell? ⟨gt, ot + j * 4 + k, none⟩ = some (u ((t.getD j D.zero).1.getD k 0)) by
        obtain ⟨g', o', e, _, hc⟩ := hW.at_.sb.2.2.2 (by omega)
        injection e with e
        injection e with e1 e2 _
        subst e1 e2
        exact fun k hk => hc j k hlt hk))
      have Hsh := Lib.hid (show shows msg s other t j = (decide ((stepsE other).getD j 0 < (stepsE msg).getD j 0) && decide (walkE (t.getD j D.zero) ((stepsE msg).getD j 0 - (stepsE other).getD j 0) = s.getD j D.zero)) from rfl)
      have hit := Lib.hid (firstFrom_hit (shows msg s other t) j (34 - j))
      have miss := Lib.hid (firstFrom_miss (shows msg s other t) j (34 - j))
      rw [show 34 - j + 1 = 35 - j by omega] at hit miss
      have hdm := stepsE_getD_lt msg j
      have hdo := stepsE_getD_lt other j
      have Htj := Lib.hid (show (match some j with | some i => (i, t.getD i D.zero, true) | none => (0, D.zero, false)) = ((j, t.getD j D.zero, true) : Nat × D × Bool) from rfl)
      generalize shows msg s other t = p at *
      generalize (stepsE msg).getD j 0 = dm at *
      generalize (stepsE other).getD j 0 = dd at *
      generalize s.getD j D.zero = x at *
      generalize ht1 : t.getD j D.zero = y at *
      go_upto_region 8 with (fail)
      by_cases hd : dd < dm
      · have hdd : decide (dd < dm) = true := decide_eq_true hd
        have hdi : decide ((dd : Int) < (dm : Int)) = true := by simp; omega
        have b3 : IntKind.i64.wrap ((dm : Int) - (dd : Int)) = ((dm - dd : Nat) : Int) := by rw [IntKind.wrap_i64]; omega
        rw [hdd, Bool.true_and] at Hsh
        generalize hwz : walkE y (dm - dd) = z at *
        have Hwz := Lib.hid hwz
        clear hwz
        refine wp_region_all (fun W => AhIn w W msg other (some ⟨gs, os_, none⟩) (some ⟨gt, ot, none⟩) c c' ga ca gb cb b s t) (by kernel_rfl) (by kernel_rfl) (HN.out.grow (Grow.refl _).drew) ?_
        (refine quiet_ex rfl ?_; apply Exists.intro; refine ⟨fun W hW => ?_, ?_⟩)
        · go_simp; try with_reducible rfl
        simp only [Act.put, List.setIfInBounds_toArray, List.set_cons_zero, List.set_cons_succ]
        (refine quiet_ex rfl ?_; apply Exists.intro; refine ⟨fun W hW => ?_, ?_⟩)
        · go_simp; try with_reducible rfl
        simp only [Act.put, List.setIfInBounds_toArray, List.set_cons_zero, List.set_cons_succ]
        (refine quiet_ex rfl ?_; apply Exists.intro; refine ⟨fun W hW => ?_, ?_⟩)
        · have c := fo.out W hW; go_simp; try with_reducible rfl
        simp only [Act.put, List.setIfInBounds_toArray, List.set_cons_zero, List.set_cons_succ]
        (refine quiet_ex rfl ?_; apply Exists.intro; refine ⟨fun W hW => ?_, ?_⟩)
        · have c := fo.out W hW; go_simp; try with_reducible rfl
        simp only [Act.put, List.setIfInBounds_toArray, List.set_cons_zero, List.set_cons_succ]
        (refine quiet_ex rfl ?_; apply Exists.intro; refine ⟨fun W hW => ?_, ?_⟩)
        · go_simp; try with_reducible rfl
        simp only [Act.put, List.setIfInBounds_toArray, List.set_cons_zero, List.set_cons_succ]
        (refine quiet_ex rfl ?_; apply Exists.intro; refine ⟨fun W hW => ?_, ?_⟩)
        · go_simp; try with_reducible rfl
        simp only [Act.put, List.setIfInBounds_toArray, List.set_cons_zero, List.set_cons_succ]
        (refine quiet_ex rfl ?_; apply Exists.intro; refine ⟨fun W hW => ?_, ?_⟩)
        · have c := fm.out W hW; go_simp; try with_reducible rfl
        simp only [Act.put, List.setIfInBounds_toArray, List.set_cons_zero, List.set_cons_succ]
        (refine quiet_ex rfl ?_; apply Exists.intro; refine ⟨fun W hW => ?_, ?_⟩)
        · have c := fm.out W hW; go_simp; try with_reducible rfl
        simp only [Act.put, List.setIfInBounds_toArray, List.set_cons_zero, List.set_cons_succ]
        (refine quiet_ex rfl ?_; apply Exists.intro; refine ⟨fun W hW => ?_, ?_⟩)
        · go_simp; try with_reducible rfl
        simp only [Act.put, List.setIfInBounds_toArray, List.set_cons_zero, List.set_cons_succ]
        (refine quiet_ex rfl ?_; apply Exists.intro; refine ⟨fun W hW => ?_, ?_⟩)
        · go_simp; try with_reducible rfl
        simp only [Act.put, List.setIfInBounds_toArray, List.set_cons_zero, List.set_cons_succ]
        (refine quiet_ex rfl ?_; apply Exists.intro; refine ⟨fun W hW => ?_, ?_⟩)
        · go_simp; try with_reducible rfl
        simp only [Act.put, List.setIfInBounds_toArray, List.set_cons_zero, List.set_cons_succ]
        (refine quiet_ex rfl ?_; apply Exists.intro; refine ⟨fun W hW => ?_, ?_⟩)
        · go_simp; try with_reducible rfl
        simp only [Act.put, List.setIfInBounds_toArray, List.set_cons_zero, List.set_cons_succ]
        (refine quiet_ex rfl ?_; apply Exists.intro; refine ⟨fun W hW => ?_, ?_⟩)
        · go_simp; try with_reducible rfl
        simp only [Act.put, List.setIfInBounds_toArray, List.set_cons_zero, List.set_cons_succ]
        (refine quiet_ex rfl ?_; apply Exists.intro; refine ⟨fun W hW => ?_, ?_⟩)
        · go_simp; try with_reducible rfl
        simp only [Act.put, List.setIfInBounds_toArray, List.set_cons_zero, List.set_cons_succ]
        refine quiet_load_D rfl 24 (.tmp 45) rfl gt (ot + j * 4) rfl y (fun W hW => ft.out W hW) _ Tryd.underlying24 hi_D ?_
        simp only [Act.put, List.setIfInBounds_toArray, List.set_cons_zero, List.set_cons_succ]
        (refine quiet_ex rfl ?_; apply Exists.intro; refine ⟨fun W hW => ?_, ?_⟩)
        · go_simp; try with_reducible rfl
        simp only [Act.put, List.setIfInBounds_toArray, List.set_cons_zero, List.set_cons_succ]
        (refine quiet_ex rfl ?_; apply Exists.intro; refine ⟨fun W hW => ?_, ?_⟩)
        · go_simp; try with_reducible rfl
        simp only [Act.put, List.setIfInBounds_toArray, List.set_cons_zero, List.set_cons_succ]
        (refine quiet_ex rfl ?_; apply Exists.intro; refine ⟨fun W hW => ?_, ?_⟩)
        · have c := fm.out W hW; go_simp; try with_reducible rfl
        simp only [Act.put, List.setIfInBounds_toArray, List.set_cons_zero, List.set_cons_succ]
        (refine quiet_ex rfl ?_; apply Exists.intro; refine ⟨fun W hW => ?_, ?_⟩)
        · have c := fm.out W hW; go_simp; try with_reducible rfl
        simp only [Act.put, List.setIfInBounds_toArray, List.set_cons_zero, List.set_cons_succ]
        (refine quiet_ex rfl ?_; apply Exists.intro; refine ⟨fun W hW => ?_, ?_⟩)
        · go_simp; try with_reducible rfl
        simp only [Act.put, List.setIfInBounds_toArray, List.set_cons_zero, List.set_cons_succ]
        (refine quiet_ex rfl ?_; apply Exists.intro; refine ⟨fun W hW => ?_, ?_⟩)
        · go_simp; try with_reducible rfl
        simp only [Act.put, List.setIfInBounds_toArray, List.set_cons_zero, List.set_cons_succ]
        (refine quiet_ex rfl ?_; apply Exists.intro; refine ⟨fun W hW => ?_, ?_⟩)
        · have c := fo.out W hW; go_simp; try with_reducible rfl
        simp only [Act.put, List.setIfInBounds_toArray, List.set_cons_zero, List.set_cons_succ]
        (refine quiet_ex rfl ?_; apply Exists.intro; refine ⟨fun W hW => ?_, ?_⟩)
        · have c := fo.out W hW; go_simp; try with_reducible rfl
        simp only [Act.put, List.setIfInBounds_toArray, List.set_cons_zero, List.set_cons_succ]
        (refine quiet_ex rfl ?_; apply Exists.intro; refine ⟨fun W hW => ?_, ?_⟩)
        · go_simp; try with_reducible rfl
        simp only [Act.put, List.setIfInBounds_toArray, List.set_cons_zero, List.set_cons_succ]
        (refine quiet_at rfl ⟨.agg (us z.1), fun W hW => ?_, ?_⟩)
        · go_simp; exact Hwz.out ▸ (walk_c y (dm - dd) b _ hW.at_.pla hW.al (by omega)).mono (fun e w' h => ⟨h.1, hW.grow h.2⟩)
        simp only [Act.put, List.setIfInBounds_toArray, List.set_cons_zero, List.set_cons_succ]
        (refine quiet_ex rfl ?_; apply Exists.intro; refine ⟨fun W hW => ?_, ?_⟩)
        · go_simp; try with_reducible rfl
        simp only [Act.put, List.setIfInBounds_toArray, List.set_cons_zero, List.set_cons_succ]
        (refine quiet_ex rfl ?_; apply Exists.intro; refine ⟨fun W hW => ?_, ?_⟩)
        · go_simp; try with_reducible rfl
        simp only [Act.put, List.setIfInBounds_toArray, List.set_cons_zero, List.set_cons_succ]
        (refine quiet_ex rfl ?_; apply Exists.intro; refine ⟨fun W hW => ?_, ?_⟩)
        · go_simp; try with_reducible rfl
        simp only [Act.put, List.setIfInBounds_toArray, List.set_cons_zero, List.set_cons_succ]
        refine quiet_load_D rfl 24 (.tmp 59) rfl gs (os_ + j * 4) rfl x (fun W hW => fs.out W hW) _ Tryd.underlying24 hi_D ?_
        simp only [Act.put, List.setIfInBounds_toArray, List.set_cons_zero, List.set_cons_succ]
        obtain ⟨bb, hbb⟩ : ∃ bb, bb = decide (z = x) := ⟨_, rfl⟩
        rw [← hbb] at Hsh
        have Hbb := Lib.hid hbb
        clear hbb
        (refine quiet_ex rfl ?_; apply Exists.intro; refine ⟨fun W hW => ?_, ?_⟩)
        · have c := eqin_D z x W; rw [← Hbb.out] at c; go_simp; try with_reducible rfl
        simp only [Act.put, List.setIfInBounds_toArray, List.set_cons_zero, List.set_cons_succ]
        (refine quiet_ex rfl ?_; apply Exists.intro; refine ⟨fun W hW => ?_, ?_⟩)
        · go_simp; try with_reducible rfl
        simp only [Act.put, List.setIfInBounds_toArray, List.set_cons_zero, List.set_cons_succ]
        refine wpQuiet_nil ?_
        intro w6 h6
        have H6 := Lib.hid h6
        clear h6
        cases bb
        · have hm := miss.out Hsh.out
          go_wp2_with fail
          go_roundw
          case rel => exact ⟨j + 1, by omega, by go_num, by rw [HF.out, hm, show 34 - j = 35 - (j + 1) by omega], H6.out⟩
          case measure => simp [intOf]; omega
        · have hm := hit.out Hsh.out
          have hres : res = (j, y, true) := by rw [Hae.out, HF.out, hm]; exact Htj.out
          subst hres
          clear hm
          go_upto_region 9 with (fail)
          refine wp_region_anyC 6 (fun W => AhIn w W msg other (some ⟨gs, os_, none⟩) (some ⟨gt, ot, none⟩) c c' ga ca gb cb b s t) (by kernel_rfl) (by kernel_rfl) (H6.out.grow (Grow.refl _).drew) ?_
          have hS := Stab.true_
          (refine anyC_val (i := 0) (some 63) rfl rfl (by kernel_rfl) (fun _ _ _ _ h => h) (by assumption) rfl ?_; apply Exists.intro; refine ⟨fun W hW => ?_, ?_⟩)
          · go_simp; try with_reducible rfl
          simp only [Act.put, List.setIfInBounds_toArray, List.set_cons_zero, List.set_cons_succ]
          (refine anyC_val (i := 1) (some 64) rfl rfl (by kernel_rfl) (fun _ _ _ _ h => h) (by assumption) rfl ?_; apply Exists.intro; refine ⟨fun W hW => ?_, ?_⟩)
          · go_simp; try with_reducible rfl
          simp only [Act.put, List.setIfInBounds_toArray, List.set_cons_zero, List.set_cons_succ]
          (refine anyC_val (i := 2) (some 65) rfl rfl (by kernel_rfl) (fun _ _ _ _ h => h) (by assumption) rfl ?_; apply Exists.intro; refine ⟨fun W hW => ?_, ?_⟩)
          · go_simp; try with_reducible rfl
          simp only [Act.put, List.setIfInBounds_toArray, List.set_cons_zero, List.set_cons_succ]
          (refine anyC_val (i := 3) (some 66) rfl rfl (by kernel_rfl) (fun _ _ _ _ h => h) (by assumption) rfl ?_; apply Exists.intro; refine ⟨fun W hW => ?_, ?_⟩)
          · go_simp; try with_reducible rfl
          simp only [Act.put, List.setIfInBounds_toArray, List.set_cons_zero, List.set_cons_succ]
          (refine anyC_val (i := 4) (some 67) rfl rfl (by kernel_rfl) (fun _ _ _ _ h => h) (by assumption) rfl ⟨_, fun W hW => run_load_D 24 (.tmp 66) rfl gt (ot + j * 4) rfl y (ft.out W hW) _ Tryd.underlying24 hi_D, ?_⟩)
          simp only [Act.put, List.setIfInBounds_toArray, List.set_cons_zero, List.set_cons_succ]
          (refine anyC_val (i := 5) (some 8) rfl rfl (by kernel_rfl) (fun _ _ _ _ h => h) (by assumption) rfl ?_; apply Exists.intro; refine ⟨fun W hW => ?_, ?_⟩)
          · go_simp; try with_reducible rfl
          simp only [Act.put, List.setIfInBounds_toArray, List.set_cons_zero, List.set_cons_succ]
          refine anyC_tail_lit (by kernel_rfl) (fun w7 h7 _ => ?_)
          simp only [List.drop_succ_cons, List.drop_zero]
          have hR := h7.at_.res
          have sy := y.sz
          have oy := y.one
          have H7 := Lib.hid h7
          clear h7
          go_wp2_with (refine wpList_store_row rfl 24 (.tmp 9) (.tmp 67) rfl (w.heap.size + 1 + 1) (us y.1) rfl rfl _ _ hR (by rw [sy]; kernel_rfl) (by rw [sy]; exact D.zero.sz) oy ?_)
          refine bodyPost_ret (results_t_cell_t (p := 8) (q := 9) (r := 10) (ty := 24) rfl _ _ (w.heap.size + 1 + 1) _ (us y.1) (0, 0) _ rfl (setRow_heap _ _ _ _ _ _ hR) Tryd.underlying24 rfl (by rw [sy]; kernel_rfl)) rfl ⟨rfl, ?_⟩
          exact H7.out.at_.gro.setRow (by omega) _
      · have hdd : decide (dd < dm) = false := decide_eq_false hd
        rw [hdd, Bool.false_and] at Hsh
        have hm := Lib.hid (miss.out Hsh.out)
        refine wp_region_all (fun W => AhIn w W msg other (some ⟨gs, os_, none⟩) (some ⟨gt, ot, none⟩) c c' ga ca gb cb b s t) (by kernel_rfl) (by kernel_rfl) (HN.out.grow (Grow.refl _).drew) ?_
        (refine quiet_ex rfl ?_; apply Exists.intro; refine ⟨fun W hW => ?_, ?_⟩)
        · go_simp; try with_reducible rfl
        simp only [Act.put, List.setIfInBounds_toArray, List.set_cons_zero, List.set_cons_succ]
        (refine quiet_ex rfl ?_; apply Exists.intro; refine ⟨fun W hW => ?_, ?_⟩)
        · go_simp; try with_reducible rfl
        simp only [Act.put, List.setIfInBounds_toArray, List.set_cons_zero, List.set_cons_succ]
        (refine quiet_ex rfl ?_; apply Exists.intro; refine ⟨fun W hW => ?_, ?_⟩)
        · have c := fo.out W hW; go_simp; try with_reducible rfl
        simp only [Act.put, List.setIfInBounds_toArray, List.set_cons_zero, List.set_cons_succ]
        (refine quiet_ex rfl ?_; apply Exists.intro; refine ⟨fun W hW => ?_, ?_⟩)
        · have c := fo.out W hW; go_simp; try with_reducible rfl
        simp only [Act.put, List.setIfInBounds_toArray, List.set_cons_zero, List.set_cons_succ]
        (refine quiet_ex rfl ?_; apply Exists.intro; refine ⟨fun W hW => ?_, ?_⟩)
        · go_simp; try with_reducible rfl
        simp only [Act.put, List.setIfInBounds_toArray, List.set_cons_zero, List.set_cons_succ]
        (refine quiet_ex rfl ?_; apply Exists.intro; refine ⟨fun W hW => ?_, ?_⟩)
        · go_simp; try with_reducible rfl
        simp only [Act.put, List.setIfInBounds_toArray, List.set_cons_zero, List.set_cons_succ]
        (refine quiet_ex rfl ?_; apply Exists.intro; refine ⟨fun W hW => ?_, ?_⟩)
        · have c := fm.out W hW; go_simp; try with_reducible rfl
        simp only [Act.put, List.setIfInBounds_toArray, List.set_cons_zero, List.set_cons_succ]
        (refine quiet_ex rfl ?_; apply Exists.intro; refine ⟨fun W hW => ?_, ?_⟩)
        · have c := fm.out W hW; go_simp; try with_reducible rfl
        simp only [Act.put, List.setIfInBounds_toArray, List.set_cons_zero, List.set_cons_succ]
        (refine quiet_ex rfl ?_; apply Exists.intro; refine ⟨fun W hW => ?_, ?_⟩)
        · go_simp; try with_reducible rfl
        simp only [Act.put, List.setIfInBounds_toArray, List.set_cons_zero, List.set_cons_succ]
        refine quiet_ex_skips (.bool false) 20 rfl (fun W hW => ?_) (by kernel_rfl) ?_
        · go_simp
        simp only [putsU, List.drop_succ_cons, List.drop_zero, Act.put, List.setIfInBounds_toArray, List.set_cons_zero, List.set_cons_succ]
        (refine quiet_ex rfl ?_; apply Exists.intro; refine ⟨fun W hW => ?_, ?_⟩)
        · go_simp; try with_reducible rfl
        simp only [Act.put, List.setIfInBounds_toArray, List.set_cons_zero, List.set_cons_succ]
        refine wpQuiet_nil ?_
        intro w6 h6
        go_wp2_with fail
        go_roundw
        case rel => exact ⟨j + 1, by omega, by go_num, by rw [HF.out, hm.out, show 34 - j = 35 - (j + 1) by omega], h6⟩
        case measure => simp [intOf]; omega
    · have e8 : j = 35 := by omega
      subst e8
      have hres : res = (0, D.zero, false) := by rw [Hae.out, HF.out]; rfl
      subst hres
      have hR := HN.out.at_.res
      have sy := D.zero.sz
      have oy := D.zero.one
      go_wp2_with (refine wpList_store_row rfl 24 (.tmp 9) (.tmp 69) rfl (w.heap.size + 1 + 1) (us D.zero.1) rfl rfl _ _ hR (by rw [sy]; kernel_rfl) rfl oy ?_)
      refine bodyPost_ret (results_t_cell_t (p := 8) (q := 9) (r := 10) (ty := 24) rfl _ _ (w.heap.size + 1 + 1) _ (us D.zero.1) (0, 0) _ rfl (setRow_heap _ _ _ _ _ _ hR) Tryd.underlying24 rfl (by rw [sy]; kernel_rfl)) rfl ⟨rfl, ?_⟩
      exact HN.out.at_.gro.setRow (by omega) _
end Go.Proofs.YtolkeknbhfnefaaDoor
