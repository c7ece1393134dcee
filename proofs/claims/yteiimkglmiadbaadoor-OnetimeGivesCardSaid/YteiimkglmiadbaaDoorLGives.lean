/- The walk of the law OnetimeGives: it answers true. (under way) -/
import Derived.Test.YteiimkglmiadbaaDoorAwake
import Derived.Test.YteiimkglmiadbaaDoorAhead
import Derived.Test.YteiimkglmiadbaaDoorGvPure
namespace Go.Proofs.YteiimkglmiadbaaDoor
open Go.RowKit
structure GvAt (w0 w : World) (seed a b : D) : Prop where
  one : Blk w w0.heap.size 24 (us seed.1)
  two : Blk w (w0.heap.size + 1) 24 (us a.1)
  tri : Blk w (w0.heap.size + 1 + 1) 24 (us b.1)
  gro : Grow w0 w
  pla : Places w
theorem GvAt.grow {w0 w w' : World} {seed a b : D} (h : GvAt w0 w seed a b) (hg : Grow w w') : GvAt w0 w' seed a b :=
  ⟨h.one.grow hg, h.two.grow hg, h.tri.grow hg, h.gro.tr hg, h.pla.grow hg⟩
structure GvIn (w0 w : World) (seed a b : D) (A B : Option Addr) (ca cb : Nat) : Prop where
  at_ : GvAt w0 w seed a b
  sa : SlD w A 35 ca (signE seed a)
  sb : SlD w B 35 cb (signE seed b)
theorem GvIn.grow {w0 w w' : World} {seed a b : D} {A B : Option Addr} {ca cb : Nat} (h : GvIn w0 w seed a b A B ca cb) (hg : Grow w w') : GvIn w0 w' seed a b A B ca cb :=
  ⟨h.at_.grow hg, h.sa.grow hg, h.sb.grow hg⟩
structure GvFin (w0 w : World) (seed a b : D) (gA oA gB oB ca cb ga cga gb cgb k10 k13 : Nat) (y1 y2 : D) : Prop where
  yb2 : Blk w k13 24 (us y2.1)
  yb1 : Blk w k10 24 (us y1.1)
  at_ : GvIn w0 w seed a b (some ⟨gA, oA, none⟩) (some ⟨gB, oB, none⟩) ca cb
  ra : w.ownsRow 0 3 1 (.slice (some ⟨ga, 0, none⟩) 35 cga) 35 (ints (stepsE a))
  rb : w.ownsRow 0 3 1 (.slice (some ⟨gb, 0, none⟩) 35 cgb) 35 (ints (stepsE b))
theorem GvFin.grow {w0 w w' : World} {seed a b : D} {gA oA gB oB ca cb ga cga gb cgb k10 k13 : Nat} {y1 y2 : D} (h : GvFin w0 w seed a b gA oA gB oB ca cb ga cga gb cgb k10 k13 y1 y2) (hg : Grow w w') : GvFin w0 w' seed a b gA oA gB oB ca cb ga cga gb cgb k10 k13 y1 y2 :=
  ⟨h.yb2.grow hg, h.yb1.grow hg, h.at_.grow hg, ownsRow_grow h.ra hg, ownsRow_grow h.rb hg⟩
theorem SlD.at {w : World} {g o n c : Nat} {l : List D} (h : SlD w (some ⟨g, o, none⟩) n c l) (i : Nat) (hi : i < n) : ∀ k, k < 4 → w.cell? ⟨g, o + i * 4 + k, none⟩ = some (u ((l.getD i D.zero).1.getD k 0)) := by
  obtain ⟨g', o', e, _, hc⟩ := h.2.2.2 (by omega)
  injection e with e
  injection e with e1 e2 _
  subst e1 e2
  exact fun k hk => hc i k hi hk
set_option maxRecDepth 100000 in
set_option maxHeartbeats 16000000 in
theorem lgives_walk (seed a b : D) (w : World) (hP : Places w) : Calls Tryd.prog 8 #[.agg (us seed.1), .agg (us a.1), .agg (us b.1)] w fun e w' => e = .returned (.bool true) ∧ Grow w w' := by
  have HP := Lib.hid hP
  clear hP
  have S1 := Lib.hid seed.sz
  have S2 := Lib.hid a.sz
  have S3 := Lib.hid b.sz
  go_enter Tryd.func8, Tryd.ntmps8
  go_upto_region 1 with (fail)
  have hg0 := (((Below.refl w.heap.size w).alloc (Nat.le_refl _) (.cells (us seed.1) 24)).alloc (by simp) (.cells (us a.1) 24)).alloc (by simp; omega) (.cells (us b.1) 24)
  refine wp_gen (fun W => GvAt w W seed a b) ⟨((Blk.new _ _ _).alloc _).alloc _, (Blk.new1 _ _ _ _).alloc _, Blk.new2 _ _ _ _ _, hg0, HP.out.grow hg0⟩ ?_
  clear hg0
  intro w1 h1
  have hB2 := h1.two
  have hB3 := h1.tri
  have s2 := S2.out
  have s3 := S3.out
  have H1 := Lib.hid h1
  clear h1
  obtain ⟨eq, heq⟩ : ∃ x, x = decide (a = b) := ⟨_, rfl⟩
  have hq := fun W => eql_D a b W
  rw [← heq] at hq
  have Heq := Lib.hid heq
  clear heq
  cases eq
  · go_upto_region 3 with (first
      | (refine wpList_load_row_g rfl 24 (.tmp 4) rfl (w.heap.size + 1) rfl _ (us a.1) (0, 0) _ hB2 Tryd.underlying24 rfl (by rw [s2]; kernel_rfl) ?_)
      | (refine wpList_load_row_g rfl 24 (.tmp 5) rfl (w.heap.size + 1 + 1) rfl _ (us b.1) (0, 0) _ hB3 Tryd.underlying24 rfl (by rw [s3]; kernel_rfl) ?_))
    have hne : a ≠ b := of_decide_eq_false Heq.out.symm
    obtain ⟨i1, hi1, he1, hl1⟩ := ahead_sign seed a b hne
    obtain ⟨i2, hi2, he2, hl2⟩ := ahead_sign seed b a hne.symm
    have E1 := Lib.hid he1
    have E2 := Lib.hid he2
    have L1 := Lib.hid hl1
    have L2 := Lib.hid hl2
    clear he1 he2 hl1 hl2 hne hq hB2 hB3
    refine wp_region_anyC 6 (fun W => GvAt w W seed a b) (by kernel_rfl) (by kernel_rfl) (H1.out.grow (Grow.refl _).drew) ?_
    have hS := Stab.true_
    refine anyC_load_row (i := 0) (some 21) rfl rfl (by kernel_rfl) (by assumption) rfl 24 (.tmp 3) rfl (w.heap.size) rfl _ ((us seed.1)) (0, 0) _ (fun W hW => hW.one) Tryd.underlying24 rfl (by rw [S1.out]; kernel_rfl) (fun _ _ _ h => h) ?_
    simp only [Act.put, List.setIfInBounds_toArray, List.set_cons_zero, List.set_cons_succ]
    refine anyC_load_row (i := 1) (some 22) rfl rfl (by kernel_rfl) (by assumption) rfl 24 (.tmp 4) rfl ((w.heap.size + 1)) rfl _ ((us a.1)) (0, 0) _ (fun W hW => hW.two) Tryd.underlying24 rfl (by rw [S2.out]; kernel_rfl) (fun _ _ _ h => h) ?_
    simp only [Act.put, List.setIfInBounds_toArray, List.set_cons_zero, List.set_cons_succ]
    refine anyC_load_row (i := 3) (some 24) rfl rfl (by kernel_rfl) (by assumption) rfl 24 (.tmp 3) rfl (w.heap.size) rfl _ ((us seed.1)) (0, 0) _ (fun W hW => hW.one) Tryd.underlying24 rfl (by rw [S1.out]; kernel_rfl) (fun _ _ _ h => h) ?_
    simp only [Act.put, List.setIfInBounds_toArray, List.set_cons_zero, List.set_cons_succ]
    refine anyC_load_row (i := 4) (some 25) rfl rfl (by kernel_rfl) (by assumption) rfl 24 (.tmp 5) rfl ((w.heap.size + 1 + 1)) rfl _ ((us b.1)) (0, 0) _ (fun W hW => hW.tri) Tryd.underlying24 rfl (by rw [S3.out]; kernel_rfl) (fun _ _ _ h => h) ?_
    simp only [Act.put, List.setIfInBounds_toArray, List.set_cons_zero, List.set_cons_succ]
    refine anyC_one (i := 2) (by kernel_rfl) (fun W hW _ => ?_)
    refine wpOp_call (some 23) rfl rfl rfl (by go_simp) ((sign_c seed a _ hW.pla).mono ?_)
    rintro e w2 ⟨va, rfl, hoa, hg2⟩
    obtain ⟨A, ca, rfl, hsa⟩ := SlD.of_own hoa
    refine ⟨_, rfl, hW.grow hg2, (fun x => SlD x A 35 ca (signE seed a)), (fun _ _ h g => h.grow g), hsa, ?_⟩
    clear hoa hsa hg2 hW
    simp only [Act.put, List.setIfInBounds_toArray, List.set_cons_zero, List.set_cons_succ]
    refine anyC_one (i := 5) (by kernel_rfl) (fun W hW hR => ?_)
    refine wpOp_call (some 26) rfl rfl rfl (by go_simp) ((sign_c seed b _ hW.pla).mono ?_)
    rintro e w3 ⟨vb, rfl, hob, hg3⟩
    obtain ⟨B, cb, rfl, hsb⟩ := SlD.of_own hob
    refine ⟨_, rfl, hW.grow hg3, (fun x => SlD x A 35 ca (signE seed a) ∧ SlD x B 35 cb (signE seed b)), (fun _ _ h g => ⟨h.1.grow g, h.2.grow g⟩), ⟨hR.grow hg3, hsb⟩, ?_⟩
    clear hob hsb hg3 hW hR
    simp only [Act.put, List.setIfInBounds_toArray, List.set_cons_zero, List.set_cons_succ]
    refine anyC_tail_lit (by kernel_rfl) (fun w4 h4 hR => ?_)
    simp only [List.drop_succ_cons, List.drop_zero]
    have H4 := Lib.hid (GvIn.mk h4 hR.1 hR.2)
    have hB2 := h4.two
    have hB3 := h4.tri
    clear h4 hR hS H1
    go_wp2_with (first
      | (refine wpList_load_row_g rfl 24 (.tmp 4) rfl (w.heap.size + 1) rfl _ (us a.1) (0, 0) _ hB2 Tryd.underlying24 rfl (by rw [s2]; kernel_rfl) ?_)
      | (refine wpList_load_row_g rfl 24 (.tmp 5) rfl (w.heap.size + 1 + 1) rfl _ (us b.1) (0, 0) _ hB3 Tryd.underlying24 rfl (by rw [s3]; kernel_rfl) ?_))
    refine (ahead_c a b A B ca cb _ _ _ H4.out.at_.pla H4.out.sa H4.out.sb).mono ?_
    rw [E1.out]
    rintro e w5 ⟨rfl, hg5⟩
    have H5 := Lib.hid (H4.out.grow hg5)
    clear hg5 hB2 hB3
    generalize hy1 : (signE seed b).getD i1 D.zero = y1 at *
    have Y1 := Lib.hid hy1
    clear hy1
    have sy1 := y1.sz
    have oy1 := y1.one
    have hzz : #[Value.int .u32 0, .int .u32 0, .int .u32 0, .int .u32 0].size = (us y1.1).size := by rw [sy1]; rfl
    go_upto_region 5 with (refine wpList_store_new rfl 24 (.tmp 10) (.tmp 34) rfl (us y1.1) rfl rfl (by rw [sy1]; kernel_rfl) hzz oy1 ?_)
    obtain ⟨k10, hk10⟩ : ∃ bk, bk = w5.heap.size := ⟨_, rfl⟩
    have hga : Grow w5 (w5.alloc (.cells (us y1.1) 24)) := Below.alloc (Grow.refl w5) (Nat.le_refl _) _
    refine wp_gen (fun W => Blk W k10 24 (us y1.1) ∧ GvIn w W seed a b A B ca cb) (hk10 ▸ ⟨Blk.new _ _ _, H5.out.grow hga⟩) ?_
    rw [← hk10]
    clear hk10 hzz hga
    intro w6 h6
    have H6 := Lib.hid h6
    have hB2 := h6.2.at_.two
    have hB3 := h6.2.at_.tri
    clear h6
    go_wp2_with (first
      | (refine wpList_load_row_g rfl 24 (.tmp 4) rfl (w.heap.size + 1) rfl _ (us a.1) (0, 0) _ hB2 Tryd.underlying24 rfl (by rw [s2]; kernel_rfl) ?_)
      | (refine wpList_load_row_g rfl 24 (.tmp 5) rfl (w.heap.size + 1 + 1) rfl _ (us b.1) (0, 0) _ hB3 Tryd.underlying24 rfl (by rw [s3]; kernel_rfl) ?_))
    refine (ahead_c b a B A cb ca _ _ _ H6.out.2.at_.pla H6.out.2.sb H6.out.2.sa).mono ?_
    rw [E2.out]
    rintro e w7 ⟨rfl, hg7⟩
    have H7 := Lib.hid (And.intro (H6.out.1.grow hg7) (H6.out.2.grow hg7))
    clear hg7 hB2 hB3
    generalize hy2 : (signE seed a).getD i2 D.zero = y2 at *
    have Y2 := Lib.hid hy2
    clear hy2
    have sy2 := y2.sz
    have oy2 := y2.one
    have hzz : #[Value.int .u32 0, .int .u32 0, .int .u32 0, .int .u32 0].size = (us y2.1).size := by rw [sy2]; rfl
    go_upto_region 6 with (refine wpList_store_new rfl 24 (.tmp 13) (.tmp 43) rfl (us y2.1) rfl rfl (by rw [sy2]; kernel_rfl) hzz oy2 ?_)
    obtain ⟨k13, hk13⟩ : ∃ bk, bk = w7.heap.size := ⟨_, rfl⟩
    have hga : Grow w7 (w7.alloc (.cells (us y2.1) 24)) := Below.alloc (Grow.refl w7) (Nat.le_refl _) _
    refine wp_gen (fun W => Blk W k13 24 (us y2.1) ∧ Blk W k10 24 (us y1.1) ∧ GvIn w W seed a b A B ca cb) (hk13 ▸ ⟨Blk.new _ _ _, H7.out.1.grow hga, H7.out.2.grow hga⟩) ?_
    rw [← hk13]
    clear hk13 hzz hga
    intro w8 h8
    have H8 := Lib.hid h8
    clear h8
    have f1 : decide ((34 : Int) < (i1 : Int)) = false := by simp; omega
    have f2 : decide ((34 : Int) < (i2 : Int)) = false := by simp; omega
    have f3 : decide ((i1 : Int) < 0) = false := by simp
    have f4 : decide ((i2 : Int) < 0) = false := by simp
    have f5 : (((35 : Nat) : Int) != 35) = false := by decide
    go_upto_region 8 with (fail)
    clear f1 f2 f3 f4 f5
    refine wp_region_anyC 4 (fun W => Blk W k13 24 (us y2.1) ∧ Blk W k10 24 (us y1.1) ∧ GvIn w W seed a b A B ca cb) (by kernel_rfl) (by kernel_rfl) ⟨H8.out.1.drew, H8.out.2.1.drew, H8.out.2.2.grow (Grow.refl _).drew⟩ ?_
    have hS := Stab.true_
    refine anyC_load_row (i := 0) (some 77) rfl rfl (by kernel_rfl) (by assumption) rfl 24 (.tmp 4) rfl ((w.heap.size + 1)) rfl _ ((us a.1)) (0, 0) _ (fun W hW => hW.2.2.at_.two) Tryd.underlying24 rfl (by rw [S2.out]; kernel_rfl) (fun _ _ _ h => h) ?_
    simp only [Act.put, List.setIfInBounds_toArray, List.set_cons_zero, List.set_cons_succ]
    refine anyC_load_row (i := 2) (some 79) rfl rfl (by kernel_rfl) (by assumption) rfl 24 (.tmp 5) rfl ((w.heap.size + 1 + 1)) rfl _ ((us b.1)) (0, 0) _ (fun W hW => hW.2.2.at_.tri) Tryd.underlying24 rfl (by rw [S3.out]; kernel_rfl) (fun _ _ _ h => h) ?_
    simp only [Act.put, List.setIfInBounds_toArray, List.set_cons_zero, List.set_cons_succ]
    refine anyC_one (i := 1) (by kernel_rfl) (fun W hW _ => ?_)
    refine wpOp_call (some 78) rfl rfl rfl (by go_simp) ((rsteps_c a _).mono ?_)
    rintro e w9 ⟨va, rfl, hoa, hg9⟩
    obtain ⟨ga, cga, rfl, -, -, -, -⟩ := own_ints hoa (by omega)
    refine ⟨_, rfl, ⟨hW.1.grow hg9, hW.2.1.grow hg9, hW.2.2.grow hg9⟩, (fun x => x.ownsRow 0 3 1 (.slice (some ⟨ga, 0, none⟩) 35 cga) 35 (ints (stepsE a))), (fun _ _ h g => ownsRow_grow h g), ownsRow_base hoa (Nat.zero_le _), ?_⟩
    clear hoa hg9 hW
    simp only [Act.put, List.setIfInBounds_toArray, List.set_cons_zero, List.set_cons_succ]
    refine anyC_one (i := 3) (by kernel_rfl) (fun W hW hR => ?_)
    refine wpOp_call (some 80) rfl rfl rfl (by go_simp) ((rsteps_c b _).mono ?_)
    rintro e w10 ⟨vb, rfl, hob, hg10⟩
    obtain ⟨gb, cgb, rfl, -, -, -, -⟩ := own_ints hob (by omega)
    refine ⟨_, rfl, ⟨hW.1.grow hg10, hW.2.1.grow hg10, hW.2.2.grow hg10⟩, (fun x => x.ownsRow 0 3 1 (.slice (some ⟨ga, 0, none⟩) 35 cga) 35 (ints (stepsE a)) ∧ x.ownsRow 0 3 1 (.slice (some ⟨gb, 0, none⟩) 35 cgb) 35 (ints (stepsE b))), (fun _ _ h g => ⟨ownsRow_grow h.1 g, ownsRow_grow h.2 g⟩), ⟨ownsRow_grow hR hg10, ownsRow_base hob (Nat.zero_le _)⟩, ?_⟩
    clear hob hg10 hW hR
    simp only [Act.put, List.setIfInBounds_toArray, List.set_cons_zero, List.set_cons_succ]
    refine anyC_tail_lit (by kernel_rfl) (fun w11 h11 hR => ?_)
    simp only [List.drop_succ_cons, List.drop_zero]
    have H11 := Lib.hid (And.intro h11 hR)
    clear h11 hR hS H8
    go_upto_region 9 with (fail)
    obtain ⟨gA, oA, rfl, -, -⟩ := H11.out.1.2.2.sa.2.2.2 (by omega)
    obtain ⟨gB, oB, rfl, -, -⟩ := H11.out.1.2.2.sb.2.2.2 (by omega)
    have hcA := Lib.hid H11.out.1.2.2.sa.1
    have hcB := Lib.hid H11.out.1.2.2.sb.1
    have HF := Lib.hid (GvFin.mk H11.out.1.1 H11.out.1.2.1 H11.out.1.2.2 H11.out.2.1 H11.out.2.2 : GvFin w w11 seed a b gA oA gB oB ca cb ga cga gb cgb k10 k13 y1 y2)
    clear H11
    have fda1 := Lib.hid (fun W (hW : GvFin w W seed a b gA oA gB oB ca cb ga cga gb cgb k10 k13 y1 y2) => own_ints_lit hW.ra (by omega) W (Grow.refl _) i1 (by omega))
    have fdb1 := Lib.hid (fun W (hW : GvFin w W seed a b gA oA gB oB ca cb ga cga gb cgb k10 k13 y1 y2) => own_ints_lit hW.rb (by omega) W (Grow.refl _) i1 (by omega))
    have fda2 := Lib.hid (fun W (hW : GvFin w W seed a b gA oA gB oB ca cb ga cga gb cgb k10 k13 y1 y2) => own_ints_lit hW.ra (by omega) W (Grow.refl _) i2 (by omega))
    have fdb2 := Lib.hid (fun W (hW : GvFin w W seed a b gA oA gB oB ca cb ga cga gb cgb k10 k13 y1 y2) => own_ints_lit hW.rb (by omega) W (Grow.refl _) i2 (by omega))
    have fx1 := Lib.hid (fun W (hW : GvFin w W seed a b gA oA gB oB ca cb ga cga gb cgb k10 k13 y1 y2) => hW.at_.sb.at i1 (by omega))
    have fx2 := Lib.hid (fun W (hW : GvFin w W seed a b gA oA gB oB ca cb ga cga gb cgb k10 k13 y1 y2) => hW.at_.sa.at i2 (by omega))
    have fx3 := Lib.hid (fun W (hW : GvFin w W seed a b gA oA gB oB ca cb ga cga gb cgb k10 k13 y1 y2) => hW.at_.sa.at i1 (by omega))
    have fx4 := Lib.hid (fun W (hW : GvFin w W seed a b gA oA gB oB ca cb ga cga gb cgb k10 k13 y1 y2) => hW.at_.sb.at i2 (by omega))
    have e3 := Lib.hid (gives_reach seed b a i1 hi1 (Nat.le_of_lt L1.out))
    have e4 := Lib.hid (gives_reach seed a b i2 hi2 (Nat.le_of_lt L2.out))
    rw [Y1.out] at e3
    rw [Y2.out] at e4
    have hda1 := stepsE_getD_lt a i1
    have hdb1 := stepsE_getD_lt b i1
    have hda2 := stepsE_getD_lt a i2
    have hdb2 := stepsE_getD_lt b i2
    have l1 := L1.out
    have l2 := L2.out
    clear L1 L2
    generalize hz1 : (signE seed b).getD i1 D.zero = z1 at *
    generalize hz2 : (signE seed a).getD i2 D.zero = z2 at *
    have Z1 := Lib.hid (show y1 = z1 by rw [← Y1.out])
    have Z2 := Lib.hid (show y2 = z2 by rw [← Y2.out])
    generalize (signE seed a).getD i1 D.zero = x3 at *
    generalize (signE seed b).getD i2 D.zero = x4 at *
    generalize (stepsE a).getD i1 0 = na1 at *
    generalize (stepsE b).getD i1 0 = nb1 at *
    generalize (stepsE a).getD i2 0 = na2 at *
    generalize (stepsE b).getD i2 0 = nb2 at *
    clear Y1 Y2 hz1 hz2 E1 E2
    generalize hw3 : walkE y1 (na1 - nb1) = v3 at *
    generalize hw4 : walkE y2 (nb2 - na2) = v4 at *
    have W3 := Lib.hid hw3
    have W4 := Lib.hid hw4
    clear hw3 hw4
    have c1 : (0 : Int) ≤ i1 := by omega
    have c2 : (i1 : Int) < 35 := by omega
    have c3 : (0 : Int) ≤ i2 := by omega
    have c4 : (i2 : Int) < 35 := by omega
    have c5 : decide ((nb1 : Int) < (na1 : Int)) = true := by simp; omega
    have c6 : decide ((na2 : Int) < (nb2 : Int)) = true := by simp; omega
    have c5' : decide (nb1 < na1) = true := by simpa using l1
    have c6' : decide (na2 < nb2) = true := by simpa using l2
    have c7 : IntKind.i64.wrap ((na1 : Int) - (nb1 : Int)) = ((na1 - nb1 : Nat) : Int) := by rw [IntKind.wrap_i64]; omega
    have c8 : IntKind.i64.wrap ((nb2 : Int) - (na2 : Int)) = ((nb2 - na2 : Nat) : Int) := by rw [IntKind.wrap_i64]; omega
    have S4 := Lib.hid sy1
    have S5 := Lib.hid sy2
    clear sy1 sy2 oy1 oy2 s2 s3 l1 l2
    refine wp_region_all (fun W => GvFin w W seed a b gA oA gB oB ca cb ga cga gb cgb k10 k13 y1 y2) (by kernel_rfl) (by kernel_rfl) (HF.out.grow (Grow.refl _).drew) ?_
    simp only [List.append_eq, List.cons_append, List.nil_append]
    (refine quiet_at rfl ⟨.bool true, fun W hW => ?_, ?_⟩)
    · go_simp; exact (awake_c _ hW.at_.at_.pla).mono (fun e w' h => ⟨h.1, hW.grow h.2⟩)
    simp only [Act.put, List.setIfInBounds_toArray, List.set_cons_zero, List.set_cons_succ]
    (refine quiet_ex rfl ?_; apply Exists.intro; refine ⟨fun W hW => ?_, ?_⟩)
    · go_simp; try with_reducible rfl
    simp only [Act.put, List.setIfInBounds_toArray, List.set_cons_zero, List.set_cons_succ]
    refine quiet_load_row rfl 24 (.tmp 10) rfl (k10) rfl _ ((us y1.1)) (0, 0) _ (fun W hW => hW.yb1) Tryd.underlying24 rfl (by rw [S4.out]; kernel_rfl) ?_
    simp only [Act.put, List.setIfInBounds_toArray, List.set_cons_zero, List.set_cons_succ]
    (refine quiet_ex rfl ?_; apply Exists.intro; refine ⟨fun W hW => ?_, ?_⟩)
    · go_simp; try with_reducible rfl
    simp only [Act.put, List.setIfInBounds_toArray, List.set_cons_zero, List.set_cons_succ]
    (refine quiet_ex rfl ?_; apply Exists.intro; refine ⟨fun W hW => ?_, ?_⟩)
    · go_simp; try with_reducible rfl
    simp only [Act.put, List.setIfInBounds_toArray, List.set_cons_zero, List.set_cons_succ]
    (refine quiet_ex rfl ?_; apply Exists.intro; refine ⟨fun W hW => ?_, ?_⟩)
    · go_simp; try with_reducible rfl
    simp only [Act.put, List.setIfInBounds_toArray, List.set_cons_zero, List.set_cons_succ]
    refine quiet_load_D rfl 24 (.tmp 86) rfl gB (oB + i1 * 4) rfl z1 (fun W hW => fx1.out W hW) _ Tryd.underlying24 hi_D ?_
    simp only [Act.put, List.setIfInBounds_toArray, List.set_cons_zero, List.set_cons_succ]
    (refine quiet_ex rfl ?_; apply Exists.intro; refine ⟨fun W hW => ?_, ?_⟩)
    · have c := eqin_D y1 z1 W; rw [decide_eq_true Z1.out] at c; go_simp; try with_reducible rfl
    simp only [Act.put, List.setIfInBounds_toArray, List.set_cons_zero, List.set_cons_succ]
    (refine quiet_ex rfl ?_; apply Exists.intro; refine ⟨fun W hW => ?_, ?_⟩)
    · go_simp; try with_reducible rfl
    simp only [Act.put, List.setIfInBounds_toArray, List.set_cons_zero, List.set_cons_succ]
    (refine quiet_ex rfl ?_; apply Exists.intro; refine ⟨fun W hW => ?_, ?_⟩)
    · go_simp; try with_reducible rfl
    simp only [Act.put, List.setIfInBounds_toArray, List.set_cons_zero, List.set_cons_succ]
    refine quiet_load_row rfl 24 (.tmp 13) rfl (k13) rfl _ ((us y2.1)) (0, 0) _ (fun W hW => hW.yb2) Tryd.underlying24 rfl (by rw [S5.out]; kernel_rfl) ?_
    simp only [Act.put, List.setIfInBounds_toArray, List.set_cons_zero, List.set_cons_succ]
    (refine quiet_ex rfl ?_; apply Exists.intro; refine ⟨fun W hW => ?_, ?_⟩)
    · go_simp; try with_reducible rfl
    simp only [Act.put, List.setIfInBounds_toArray, List.set_cons_zero, List.set_cons_succ]
    (refine quiet_ex rfl ?_; apply Exists.intro; refine ⟨fun W hW => ?_, ?_⟩)
    · go_simp; try with_reducible rfl
    simp only [Act.put, List.setIfInBounds_toArray, List.set_cons_zero, List.set_cons_succ]
    (refine quiet_ex rfl ?_; apply Exists.intro; refine ⟨fun W hW => ?_, ?_⟩)
    · go_simp; try with_reducible rfl
    simp only [Act.put, List.setIfInBounds_toArray, List.set_cons_zero, List.set_cons_succ]
    refine quiet_load_D rfl 24 (.tmp 94) rfl gA (oA + i2 * 4) rfl z2 (fun W hW => fx2.out W hW) _ Tryd.underlying24 hi_D ?_
    simp only [Act.put, List.setIfInBounds_toArray, List.set_cons_zero, List.set_cons_succ]
    (refine quiet_ex rfl ?_; apply Exists.intro; refine ⟨fun W hW => ?_, ?_⟩)
    · have c := eqin_D y2 z2 W; rw [decide_eq_true Z2.out] at c; go_simp; try with_reducible rfl
    simp only [Act.put, List.setIfInBounds_toArray, List.set_cons_zero, List.set_cons_succ]
    (refine quiet_ex rfl ?_; apply Exists.intro; refine ⟨fun W hW => ?_, ?_⟩)
    · go_simp; try with_reducible rfl
    simp only [Act.put, List.setIfInBounds_toArray, List.set_cons_zero, List.set_cons_succ]
    (refine quiet_ex rfl ?_; apply Exists.intro; refine ⟨fun W hW => ?_, ?_⟩)
    · go_simp; try with_reducible rfl
    simp only [Act.put, List.setIfInBounds_toArray, List.set_cons_zero, List.set_cons_succ]
    (refine quiet_ex rfl ?_; apply Exists.intro; refine ⟨fun W hW => ?_, ?_⟩)
    · go_simp; try with_reducible rfl
    simp only [Act.put, List.setIfInBounds_toArray, List.set_cons_zero, List.set_cons_succ]
    (refine quiet_ex rfl ?_; apply Exists.intro; refine ⟨fun W hW => ?_, ?_⟩)
    · go_simp; try with_reducible rfl
    simp only [Act.put, List.setIfInBounds_toArray, List.set_cons_zero, List.set_cons_succ]
    (refine quiet_ex rfl ?_; apply Exists.intro; refine ⟨fun W hW => ?_, ?_⟩)
    · go_simp; try with_reducible rfl
    simp only [Act.put, List.setIfInBounds_toArray, List.set_cons_zero, List.set_cons_succ]
    (refine quiet_ex rfl ?_; apply Exists.intro; refine ⟨fun W hW => ?_, ?_⟩)
    · have c := fdb1.out W hW; go_simp; try with_reducible rfl
    simp only [Act.put, List.setIfInBounds_toArray, List.set_cons_zero, List.set_cons_succ]
    (refine quiet_ex rfl ?_; apply Exists.intro; refine ⟨fun W hW => ?_, ?_⟩)
    · go_simp; try with_reducible rfl
    simp only [Act.put, List.setIfInBounds_toArray, List.set_cons_zero, List.set_cons_succ]
    (refine quiet_ex rfl ?_; apply Exists.intro; refine ⟨fun W hW => ?_, ?_⟩)
    · go_simp; try with_reducible rfl
    simp only [Act.put, List.setIfInBounds_toArray, List.set_cons_zero, List.set_cons_succ]
    (refine quiet_ex rfl ?_; apply Exists.intro; refine ⟨fun W hW => ?_, ?_⟩)
    · go_simp; try with_reducible rfl
    simp only [Act.put, List.setIfInBounds_toArray, List.set_cons_zero, List.set_cons_succ]
    (refine quiet_ex rfl ?_; apply Exists.intro; refine ⟨fun W hW => ?_, ?_⟩)
    · have c := fda1.out W hW; go_simp; try with_reducible rfl
    simp only [Act.put, List.setIfInBounds_toArray, List.set_cons_zero, List.set_cons_succ]
    (refine quiet_ex rfl ?_; apply Exists.intro; refine ⟨fun W hW => ?_, ?_⟩)
    · go_simp; try with_reducible rfl
    simp only [Act.put, List.setIfInBounds_toArray, List.set_cons_zero, List.set_cons_succ]
    (refine quiet_ex rfl ?_; apply Exists.intro; refine ⟨fun W hW => ?_, ?_⟩)
    · go_simp; try with_reducible rfl
    simp only [Act.put, List.setIfInBounds_toArray, List.set_cons_zero, List.set_cons_succ]
    (refine quiet_ex rfl ?_; apply Exists.intro; refine ⟨fun W hW => ?_, ?_⟩)
    · go_simp; try with_reducible rfl
    simp only [Act.put, List.setIfInBounds_toArray, List.set_cons_zero, List.set_cons_succ]
    (refine quiet_ex rfl ?_; apply Exists.intro; refine ⟨fun W hW => ?_, ?_⟩)
    · go_simp; try with_reducible rfl
    simp only [Act.put, List.setIfInBounds_toArray, List.set_cons_zero, List.set_cons_succ]
    (refine quiet_ex rfl ?_; apply Exists.intro; refine ⟨fun W hW => ?_, ?_⟩)
    · go_simp; try with_reducible rfl
    simp only [Act.put, List.setIfInBounds_toArray, List.set_cons_zero, List.set_cons_succ]
    (refine quiet_ex rfl ?_; apply Exists.intro; refine ⟨fun W hW => ?_, ?_⟩)
    · go_simp; try with_reducible rfl
    simp only [Act.put, List.setIfInBounds_toArray, List.set_cons_zero, List.set_cons_succ]
    (refine quiet_ex rfl ?_; apply Exists.intro; refine ⟨fun W hW => ?_, ?_⟩)
    · have c := fda2.out W hW; go_simp; try with_reducible rfl
    simp only [Act.put, List.setIfInBounds_toArray, List.set_cons_zero, List.set_cons_succ]
    (refine quiet_ex rfl ?_; apply Exists.intro; refine ⟨fun W hW => ?_, ?_⟩)
    · go_simp; try with_reducible rfl
    simp only [Act.put, List.setIfInBounds_toArray, List.set_cons_zero, List.set_cons_succ]
    (refine quiet_ex rfl ?_; apply Exists.intro; refine ⟨fun W hW => ?_, ?_⟩)
    · go_simp; try with_reducible rfl
    simp only [Act.put, List.setIfInBounds_toArray, List.set_cons_zero, List.set_cons_succ]
    (refine quiet_ex rfl ?_; apply Exists.intro; refine ⟨fun W hW => ?_, ?_⟩)
    · go_simp; try with_reducible rfl
    simp only [Act.put, List.setIfInBounds_toArray, List.set_cons_zero, List.set_cons_succ]
    (refine quiet_ex rfl ?_; apply Exists.intro; refine ⟨fun W hW => ?_, ?_⟩)
    · have c := fdb2.out W hW; go_simp; try with_reducible rfl
    simp only [Act.put, List.setIfInBounds_toArray, List.set_cons_zero, List.set_cons_succ]
    (refine quiet_ex rfl ?_; apply Exists.intro; refine ⟨fun W hW => ?_, ?_⟩)
    · go_simp; try with_reducible rfl
    simp only [Act.put, List.setIfInBounds_toArray, List.set_cons_zero, List.set_cons_succ]
    (refine quiet_ex rfl ?_; apply Exists.intro; refine ⟨fun W hW => ?_, ?_⟩)
    · go_simp; try with_reducible rfl
    simp only [Act.put, List.setIfInBounds_toArray, List.set_cons_zero, List.set_cons_succ]
    (refine quiet_ex rfl ?_; apply Exists.intro; refine ⟨fun W hW => ?_, ?_⟩)
    · go_simp; try with_reducible rfl
    simp only [Act.put, List.setIfInBounds_toArray, List.set_cons_zero, List.set_cons_succ]
    refine quiet_load_row rfl 24 (.tmp 10) rfl (k10) rfl _ ((us y1.1)) (0, 0) _ (fun W hW => hW.yb1) Tryd.underlying24 rfl (by rw [S4.out]; kernel_rfl) ?_
    simp only [Act.put, List.setIfInBounds_toArray, List.set_cons_zero, List.set_cons_succ]
    (refine quiet_ex rfl ?_; apply Exists.intro; refine ⟨fun W hW => ?_, ?_⟩)
    · go_simp; try with_reducible rfl
    simp only [Act.put, List.setIfInBounds_toArray, List.set_cons_zero, List.set_cons_succ]
    (refine quiet_ex rfl ?_; apply Exists.intro; refine ⟨fun W hW => ?_, ?_⟩)
    · go_simp; try with_reducible rfl
    simp only [Act.put, List.setIfInBounds_toArray, List.set_cons_zero, List.set_cons_succ]
    (refine quiet_ex rfl ?_; apply Exists.intro; refine ⟨fun W hW => ?_, ?_⟩)
    · go_simp; try with_reducible rfl
    simp only [Act.put, List.setIfInBounds_toArray, List.set_cons_zero, List.set_cons_succ]
    (refine quiet_ex rfl ?_; apply Exists.intro; refine ⟨fun W hW => ?_, ?_⟩)
    · have c := fda1.out W hW; go_simp; try with_reducible rfl
    simp only [Act.put, List.setIfInBounds_toArray, List.set_cons_zero, List.set_cons_succ]
    (refine quiet_ex rfl ?_; apply Exists.intro; refine ⟨fun W hW => ?_, ?_⟩)
    · go_simp; try with_reducible rfl
    simp only [Act.put, List.setIfInBounds_toArray, List.set_cons_zero, List.set_cons_succ]
    (refine quiet_ex rfl ?_; apply Exists.intro; refine ⟨fun W hW => ?_, ?_⟩)
    · go_simp; try with_reducible rfl
    simp only [Act.put, List.setIfInBounds_toArray, List.set_cons_zero, List.set_cons_succ]
    (refine quiet_ex rfl ?_; apply Exists.intro; refine ⟨fun W hW => ?_, ?_⟩)
    · go_simp; try with_reducible rfl
    simp only [Act.put, List.setIfInBounds_toArray, List.set_cons_zero, List.set_cons_succ]
    (refine quiet_ex rfl ?_; apply Exists.intro; refine ⟨fun W hW => ?_, ?_⟩)
    · have c := fdb1.out W hW; go_simp; try with_reducible rfl
    simp only [Act.put, List.setIfInBounds_toArray, List.set_cons_zero, List.set_cons_succ]
    (refine quiet_ex rfl ?_; apply Exists.intro; refine ⟨fun W hW => ?_, ?_⟩)
    · go_simp; try with_reducible rfl
    simp only [Act.put, List.setIfInBounds_toArray, List.set_cons_zero, List.set_cons_succ]
    (refine quiet_at rfl ⟨.agg (us v3.1), fun W hW => ?_, ?_⟩)
    · go_simp; exact W3.out ▸ (rwalk_c y1 (na1 - nb1) _ (by omega)).mono (fun e w' h => ⟨h.1, hW.grow h.2⟩)
    simp only [Act.put, List.setIfInBounds_toArray, List.set_cons_zero, List.set_cons_succ]
    (refine quiet_ex rfl ?_; apply Exists.intro; refine ⟨fun W hW => ?_, ?_⟩)
    · go_simp; try with_reducible rfl
    simp only [Act.put, List.setIfInBounds_toArray, List.set_cons_zero, List.set_cons_succ]
    (refine quiet_ex rfl ?_; apply Exists.intro; refine ⟨fun W hW => ?_, ?_⟩)
    · go_simp; try with_reducible rfl
    simp only [Act.put, List.setIfInBounds_toArray, List.set_cons_zero, List.set_cons_succ]
    (refine quiet_ex rfl ?_; apply Exists.intro; refine ⟨fun W hW => ?_, ?_⟩)
    · go_simp; try with_reducible rfl
    simp only [Act.put, List.setIfInBounds_toArray, List.set_cons_zero, List.set_cons_succ]
    refine quiet_load_D rfl 24 (.tmp 134) rfl gA (oA + i1 * 4) rfl x3 (fun W hW => fx3.out W hW) _ Tryd.underlying24 hi_D ?_
    simp only [Act.put, List.setIfInBounds_toArray, List.set_cons_zero, List.set_cons_succ]
    (refine quiet_ex rfl ?_; apply Exists.intro; refine ⟨fun W hW => ?_, ?_⟩)
    · have c := eqin_D v3 x3 W; rw [decide_eq_true e3.out] at c; go_simp; try with_reducible rfl
    simp only [Act.put, List.setIfInBounds_toArray, List.set_cons_zero, List.set_cons_succ]
    (refine quiet_ex rfl ?_; apply Exists.intro; refine ⟨fun W hW => ?_, ?_⟩)
    · go_simp; try with_reducible rfl
    simp only [Act.put, List.setIfInBounds_toArray, List.set_cons_zero, List.set_cons_succ]
    (refine quiet_ex rfl ?_; apply Exists.intro; refine ⟨fun W hW => ?_, ?_⟩)
    · go_simp; try with_reducible rfl
    simp only [Act.put, List.setIfInBounds_toArray, List.set_cons_zero, List.set_cons_succ]
    refine quiet_load_row rfl 24 (.tmp 13) rfl (k13) rfl _ ((us y2.1)) (0, 0) _ (fun W hW => hW.yb2) Tryd.underlying24 rfl (by rw [S5.out]; kernel_rfl) ?_
    simp only [Act.put, List.setIfInBounds_toArray, List.set_cons_zero, List.set_cons_succ]
    (refine quiet_ex rfl ?_; apply Exists.intro; refine ⟨fun W hW => ?_, ?_⟩)
    · go_simp; try with_reducible rfl
    simp only [Act.put, List.setIfInBounds_toArray, List.set_cons_zero, List.set_cons_succ]
    (refine quiet_ex rfl ?_; apply Exists.intro; refine ⟨fun W hW => ?_, ?_⟩)
    · go_simp; try with_reducible rfl
    simp only [Act.put, List.setIfInBounds_toArray, List.set_cons_zero, List.set_cons_succ]
    (refine quiet_ex rfl ?_; apply Exists.intro; refine ⟨fun W hW => ?_, ?_⟩)
    · go_simp; try with_reducible rfl
    simp only [Act.put, List.setIfInBounds_toArray, List.set_cons_zero, List.set_cons_succ]
    (refine quiet_ex rfl ?_; apply Exists.intro; refine ⟨fun W hW => ?_, ?_⟩)
    · have c := fdb2.out W hW; go_simp; try with_reducible rfl
    simp only [Act.put, List.setIfInBounds_toArray, List.set_cons_zero, List.set_cons_succ]
    (refine quiet_ex rfl ?_; apply Exists.intro; refine ⟨fun W hW => ?_, ?_⟩)
    · go_simp; try with_reducible rfl
    simp only [Act.put, List.setIfInBounds_toArray, List.set_cons_zero, List.set_cons_succ]
    (refine quiet_ex rfl ?_; apply Exists.intro; refine ⟨fun W hW => ?_, ?_⟩)
    · go_simp; try with_reducible rfl
    simp only [Act.put, List.setIfInBounds_toArray, List.set_cons_zero, List.set_cons_succ]
    (refine quiet_ex rfl ?_; apply Exists.intro; refine ⟨fun W hW => ?_, ?_⟩)
    · go_simp; try with_reducible rfl
    simp only [Act.put, List.setIfInBounds_toArray, List.set_cons_zero, List.set_cons_succ]
    (refine quiet_ex rfl ?_; apply Exists.intro; refine ⟨fun W hW => ?_, ?_⟩)
    · have c := fda2.out W hW; go_simp; try with_reducible rfl
    simp only [Act.put, List.setIfInBounds_toArray, List.set_cons_zero, List.set_cons_succ]
    (refine quiet_ex rfl ?_; apply Exists.intro; refine ⟨fun W hW => ?_, ?_⟩)
    · go_simp; try with_reducible rfl
    simp only [Act.put, List.setIfInBounds_toArray, List.set_cons_zero, List.set_cons_succ]
    (refine quiet_at rfl ⟨.agg (us v4.1), fun W hW => ?_, ?_⟩)
    · go_simp; exact W4.out ▸ (rwalk_c y2 (nb2 - na2) _ (by omega)).mono (fun e w' h => ⟨h.1, hW.grow h.2⟩)
    simp only [Act.put, List.setIfInBounds_toArray, List.set_cons_zero, List.set_cons_succ]
    (refine quiet_ex rfl ?_; apply Exists.intro; refine ⟨fun W hW => ?_, ?_⟩)
    · go_simp; try with_reducible rfl
    simp only [Act.put, List.setIfInBounds_toArray, List.set_cons_zero, List.set_cons_succ]
    (refine quiet_ex rfl ?_; apply Exists.intro; refine ⟨fun W hW => ?_, ?_⟩)
    · go_simp; try with_reducible rfl
    simp only [Act.put, List.setIfInBounds_toArray, List.set_cons_zero, List.set_cons_succ]
    (refine quiet_ex rfl ?_; apply Exists.intro; refine ⟨fun W hW => ?_, ?_⟩)
    · go_simp; try with_reducible rfl
    simp only [Act.put, List.setIfInBounds_toArray, List.set_cons_zero, List.set_cons_succ]
    refine quiet_load_D rfl 24 (.tmp 152) rfl gB (oB + i2 * 4) rfl x4 (fun W hW => fx4.out W hW) _ Tryd.underlying24 hi_D ?_
    simp only [Act.put, List.setIfInBounds_toArray, List.set_cons_zero, List.set_cons_succ]
    (refine quiet_ex rfl ?_; apply Exists.intro; refine ⟨fun W hW => ?_, ?_⟩)
    · have c := eqin_D v4 x4 W; rw [decide_eq_true e4.out] at c; go_simp; try with_reducible rfl
    simp only [Act.put, List.setIfInBounds_toArray, List.set_cons_zero, List.set_cons_succ]
    (refine quiet_ex rfl ?_; apply Exists.intro; refine ⟨fun W hW => ?_, ?_⟩)
    · go_simp; try with_reducible rfl
    simp only [Act.put, List.setIfInBounds_toArray, List.set_cons_zero, List.set_cons_succ]
    (refine quiet_ex rfl ?_; apply Exists.intro; refine ⟨fun W hW => ?_, ?_⟩)
    · go_simp; try with_reducible rfl
    simp only [Act.put, List.setIfInBounds_toArray, List.set_cons_zero, List.set_cons_succ]
    refine wpQuiet_nil ?_
    intro w12 h12
    have G12 := Lib.hid h12.at_.at_.gro
    clear h12
    go_wp2_with fail
    go_ret
    exact ⟨rfl, G12.out⟩
  · go_wp2_with (first
      | (refine wpList_load_row_g rfl 24 (.tmp 4) rfl (w.heap.size + 1) rfl _ (us a.1) (0, 0) _ hB2 Tryd.underlying24 rfl (by rw [s2]; kernel_rfl) ?_)
      | (refine wpList_load_row_g rfl 24 (.tmp 5) rfl (w.heap.size + 1 + 1) rfl _ (us b.1) (0, 0) _ hB3 Tryd.underlying24 rfl (by rw [s3]; kernel_rfl) ?_))
    refine (awake_c _ H1.out.pla).mono ?_
    rintro e w2 ⟨rfl, hg⟩
    go_wp2_with fail
    go_ret
    exact ⟨rfl, H1.out.gro.tr hg⟩
end Go.Proofs.YteiimkglmiadbaaDoor
