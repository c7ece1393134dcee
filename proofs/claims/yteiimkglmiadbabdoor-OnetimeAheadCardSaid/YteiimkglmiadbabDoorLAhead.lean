/- The walk of the law OnetimeAhead: it answers true. -/
import Derived.Test.YteiimkglmiadbabDoorAwake
import Derived.Test.YteiimkglmiadbabDoorAheadAny
namespace Go.Proofs.YteiimkglmiadbabDoor
open Go.RowKit
structure AskAt (w0 w : World) (msg other : D) (A B : Option Addr) (n c m c' : Nat) (s t : List D) : Prop where
  cm : ∀ k, k < 4 → w.cell? ⟨w0.heap.size, 0 + k, none⟩ = some (u (msg.1.getD k 0))
  co : ∀ k, k < 4 → w.cell? ⟨w0.heap.size, 4 + k, none⟩ = some (u (other.1.getD k 0))
  cs : w.cell? ⟨w0.heap.size, 8, none⟩ = some (.slice A n c)
  ct : w.cell? ⟨w0.heap.size, 9, none⟩ = some (.slice B m c')
  sa : SlD w A n c s
  sb : SlD w B m c' t
  gro : Grow w0 w
  pla : Places w
  lt : w0.heap.size < w.heap.size
theorem AskAt.grow {w0 w w' : World} {msg other : D} {A B : Option Addr} {n c m c' : Nat} {s t : List D} (h : AskAt w0 w msg other A B n c m c' s t) (hg : Grow w w') : AskAt w0 w' msg other A B n c m c' s t :=
  ⟨fun k hk => (hg.cell (p := ⟨w0.heap.size, 0 + k, none⟩) h.lt).trans (h.cm k hk), fun k hk => (hg.cell (p := ⟨w0.heap.size, 4 + k, none⟩) h.lt).trans (h.co k hk), (hg.cell (p := ⟨w0.heap.size, 8, none⟩) h.lt).trans h.cs, (hg.cell (p := ⟨w0.heap.size, 9, none⟩) h.lt).trans h.ct,
    h.sa.grow hg, h.sb.grow hg, h.gro.tr hg, h.pla.grow hg, Nat.lt_of_lt_of_le h.lt hg.size⟩
set_option maxRecDepth 100000 in
set_option maxHeartbeats 4000000 in
theorem lahead_walk (cs : Array Value) (msg other : D) (A : Option Addr) (n c : Nat) (s : List D) (B : Option Addr) (m c' : Nat) (t : List D) (w : World) (hP : Places w) (hm : ∀ k, k < 4 → cs[0 + k]? = some (u (msg.1.getD k 0))) (ho : ∀ k, k < 4 → cs[4 + k]? = some (u (other.1.getD k 0)))
    (h8 : cs[8]? = some (.slice A n c)) (hs : SlD w A n c s) (h9 : cs[9]? = some (.slice B m c')) (ht : SlD w B m c' t) : Calls Tryd.prog 3 #[.agg cs] w fun e w' => e = .returned (.bool true) ∧ Grow w w' := by
  have HP := Lib.hid hP
  have HM := Lib.hid hm
  have HO := Lib.hid ho
  have H8 := Lib.hid h8
  have H9 := Lib.hid h9
  have HS := Lib.hid hs
  have HT := Lib.hid ht
  clear hP hm ho h8 h9 hs ht
  go_enter Tryd.func3, Tryd.ntmps3
  go_upto_region 1 with (fail)
  have hg0 : Grow w (w.alloc (.cells cs 28)) := (Below.refl w.heap.size w).alloc (Nat.le_refl _) _
  have hb0 := Blk.new w 28 cs
  refine wp_gen (fun W => AskAt w W msg other A B n c m c' s t) ⟨fun k hk => (hb0.cell _).trans (HM.out k hk), fun k hk => (hb0.cell _).trans (HO.out k hk), (hb0.cell _).trans H8.out, (hb0.cell _).trans H9.out, HS.out.grow hg0, HT.out.grow hg0, hg0, HP.out.grow hg0, hb0.lt⟩ ?_
  clear hg0 hb0 HM HO H8 H9 HS HT HP
  intro w1 h1
  have hs1 := h1.cs
  have ht1 := h1.ct
  have hm1 := h1.cm
  have ho1 := h1.co
  have H1 := Lib.hid h1
  clear h1
  by_cases hn : n ≤ 40
  · have f1 : decide (40 < (n : Int)) = false := by simp; omega
    by_cases hm : m ≤ 40
    · have f2 : decide (40 < (m : Int)) = false := by simp; omega
      have HM1 := Lib.hid hm1
      have HO1 := Lib.hid ho1
      clear hm1 ho1
      obtain ⟨i1, y1, p1, he1⟩ : ∃ i y p, aheadE msg s other t = (i, y, p) := ⟨_, _, _, rfl⟩
      obtain ⟨i2, y2, p2, he2⟩ : ∃ i y p, aheadE msg s other t = (i, y, p) := ⟨_, _, _, rfl⟩
      have E12 := he1.symm.trans he2
      simp only [Prod.mk.injEq] at E12
      obtain ⟨q1, q2, q3⟩ := E12
      have E1 := Lib.hid he1
      have E2 := Lib.hid he2
      have Q1 := Lib.hid (show ((i1 : Int) == (i2 : Int)) = true by rw [q1]; simp)
      have Q2 := Lib.hid q2
      have q3' : (p1 == p2) = true := by rw [q3]; simp
      have Q3 := Lib.hid q3'
      clear he1 he2 q1 q2 q3 q3'
      go_wp2_with (first
        | (refine wpList_load_D rfl 24 (.tmp 21) rfl w.heap.size 0 rfl msg HM1.out _ Tryd.underlying24 hi_D ?_)
        | (refine wpList_load_D rfl 24 (.tmp 25) rfl w.heap.size 4 rfl other HO1.out _ Tryd.underlying24 hi_D ?_))
      refine (ahead_any msg other A B n c m c' s t _ hn hm H1.out.pla H1.out.sa H1.out.sb).mono ?_
      rw [E1.out]
      rintro e w2 ⟨rfl, hg2⟩
      have H2 := Lib.hid (H1.out.grow hg2)
      clear hg2 f1 f2 hs1 ht1 HM1 HO1
      have sy1 := y1.sz
      have oy1 := y1.one
      have hzz : #[Value.int .u32 0, .int .u32 0, .int .u32 0, .int .u32 0].size = (us y1.1).size := by rw [sy1]; rfl
      go_upto_region 4 with (refine wpList_store_new rfl 24 (.tmp 4) (.tmp 31) rfl (us y1.1) rfl rfl (by rw [sy1]; kernel_rfl) hzz oy1 ?_)
      obtain ⟨k1, hk1⟩ : ∃ bk, bk = w2.heap.size := ⟨_, rfl⟩
      have hga : Grow w2 (w2.alloc (.cells (us y1.1) 24)) := Below.alloc (Grow.refl w2) (Nat.le_refl _) _
      refine wp_gen (fun W => Blk W k1 24 (us y1.1) ∧ AskAt w W msg other A B n c m c' s t) (hk1 ▸ ⟨Blk.new _ _ _, H2.out.grow hga⟩) ?_
      rw [← hk1]
      clear hk1 hzz hga
      intro w3 h3
      have H3 := Lib.hid h3
      have HM3 := Lib.hid h3.2.cm
      have HO3 := Lib.hid h3.2.co
      have hs3 := h3.2.cs
      have ht3 := h3.2.ct
      clear h3
      go_wp2_with (first
        | (refine wpList_load_D rfl 24 (.tmp 34) rfl w.heap.size 0 rfl msg HM3.out _ Tryd.underlying24 hi_D ?_)
        | (refine wpList_load_D rfl 24 (.tmp 38) rfl w.heap.size 4 rfl other HO3.out _ Tryd.underlying24 hi_D ?_))
      refine (rahead_any msg other A B n c m c' s t _ hn hm H3.out.2.pla H3.out.2.sa H3.out.2.sb).mono ?_
      rw [E2.out]
      rintro e w4 ⟨rfl, hg4⟩
      have H4 := Lib.hid (And.intro (H3.out.1.grow hg4) (H3.out.2.grow hg4))
      clear hg4 hs3 ht3 HM3 HO3
      have sy2 := y2.sz
      have oy2 := y2.one
      have hzz : #[Value.int .u32 0, .int .u32 0, .int .u32 0, .int .u32 0].size = (us y2.1).size := by rw [sy2]; rfl
      go_upto_region 5 with (refine wpList_store_new rfl 24 (.tmp 7) (.tmp 44) rfl (us y2.1) rfl rfl (by rw [sy2]; kernel_rfl) hzz oy2 ?_)
      obtain ⟨k2, hk2⟩ : ∃ bk, bk = w4.heap.size := ⟨_, rfl⟩
      have hga : Grow w4 (w4.alloc (.cells (us y2.1) 24)) := Below.alloc (Grow.refl w4) (Nat.le_refl _) _
      refine wp_gen (fun W => Blk W k2 24 (us y2.1) ∧ Blk W k1 24 (us y1.1) ∧ AskAt w W msg other A B n c m c' s t) (hk2 ▸ ⟨Blk.new _ _ _, H4.out.1.grow hga, H4.out.2.grow hga⟩) ?_
      rw [← hk2]
      clear hk2 hzz hga
      intro w5 h5
      have H5 := Lib.hid h5
      clear h5
      go_wp2_with fail
      refine (awake_c _ H5.out.2.2.pla).mono ?_
      rintro e w6 ⟨rfl, hg6⟩
      have hB1 := H5.out.2.1.grow hg6
      have hB2 := H5.out.1.grow hg6
      have G6 := Lib.hid (H5.out.2.2.gro.tr hg6)
      have e1 := Q1.out
      have e2 := fun W => eql_D y1 y2 W
      rw [decide_eq_true Q2.out] at e2
      have e3 := Q3.out
      clear hg6
      go_wp2_with (first
        | (refine wpList_load_row_g rfl 24 (.tmp 4) rfl (k1) rfl _ (us y1.1) (0, 0) _ hB1 Tryd.underlying24 rfl (by rw [sy1]; kernel_rfl) ?_)
        | (refine wpList_load_row_g rfl 24 (.tmp 7) rfl (k2) rfl _ (us y2.1) (0, 0) _ hB2 Tryd.underlying24 rfl (by rw [sy2]; kernel_rfl) ?_))
      go_ret
      exact ⟨rfl, G6.out⟩
    · have f2 : decide (40 < (m : Int)) = true := by simp; omega
      clear hm1 ho1
      go_wp2_with fail
      refine (awake_c _ H1.out.pla).mono ?_
      rintro e w2 ⟨rfl, hg⟩
      go_wp2_with fail
      go_ret
      exact ⟨rfl, H1.out.gro.tr hg⟩
  · have f1 : decide (40 < (n : Int)) = true := by simp; omega
    go_wp2_with fail
    refine (awake_c _ H1.out.pla).mono ?_
    rintro e w2 ⟨rfl, hg⟩
    go_wp2_with fail
    go_ret
    exact ⟨rfl, H1.out.gro.tr hg⟩
end Go.Proofs.YteiimkglmiadbabDoor
