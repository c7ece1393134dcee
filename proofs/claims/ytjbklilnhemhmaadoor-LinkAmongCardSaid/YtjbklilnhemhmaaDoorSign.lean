/- onetime.Sign: it returns the signature's values, in a row of its own; the heap only grows. -/
import Derived.Test.YtjbklilnhemhmaaDoorGen
import Derived.Test.YtjbklilnhemhmaaDoorSteps
namespace Go.Proofs.YtjbklilnhemhmaaDoor
open Go.RowKit
structure SignAt (w1 wr : World) (v : Value) (seed msg : D) (q : Nat) : Prop where
  own : wr.ownsRow w1.heap.size 30 4 v q (dcells (signTo seed msg q))
  gro : Grow w1 wr
set_option maxHeartbeats 1000000 in
theorem sign_c (seed msg : D) (w : World) (hP : Places w) :
    Calls Tryd.prog 76 #[.agg (us seed.1), .agg (us msg.1)] w fun e w' => ∃ v, e = .returned v ∧ w'.ownsRow w.heap.size 30 4 v 35 (dcells (signE seed msg)) ∧ Grow w w' := by
  have HP := Lib.hid hP
  clear hP
  go_enter Tryd.func76, Tryd.ntmps76
  go_upto_region 1 with (fail)
  refine wp_gen (fun W => Blk W w.heap.size 30 (us seed.1) ∧ Blk W (w.heap.size + 1) 30 (us msg.1) ∧ Grow w W) ⟨(Blk.new _ _ _).alloc _, Blk.new1 _ _ _ _, ((Below.refl w.heap.size w).alloc (Nat.le_refl _) _).alloc (by simp) _⟩ ?_
  intro w1 h1
  have H1 := Lib.hid h1
  clear h1
  go_wp2_with fail
  refine (along_c _).mono ?_
  rintro e w2 ⟨⟨v, rfl, b, rfl, hb⟩, hg⟩
  have Hb := Lib.hid hb
  have Hg := Lib.hid hg
  clear hb hg
  have hmk := fun W => run_make_const (P := Tryd.prog) 52 30 _ 4 16 Tryd.underlying52 info_D 0 35 (by omega) (by omega) (by omega) W
  simp only [Int.cast_ofNat_Int, Nat.reduceMul] at hmk
  go_upto_region 3 with (fail)
  clear hmk
  have hown0 : (w2.alloc (.cells (madeCells #[Value.int .u32 0, .int .u32 0, .int .u32 0, .int .u32 0] 140) 30)).ownsRow w2.heap.size 30 4 (.slice (some ⟨w2.heap.size, 0, none⟩) 0 35) 0 [] :=
    World.ownsRow_made w2 _ 35 (Nat.le_refl _) (by simp [maxLen]) (by simp [madeCells])
  refine wp_gen (fun W => SignAt w2 W (.slice (some ⟨w2.heap.size, 0, none⟩) 0 35) seed msg 0) ⟨hown0, (Grow.refl _).alloc (Nat.le_refl _) _⟩ ?_
  clear hown0
  intro w3 h3
  have H3 := Lib.hid h3
  have hB3 := (H1.out.2.1.grow Hg.out).grow h3.gro
  clear h3
  generalize Value.slice (some ⟨w2.heap.size, 0, none⟩) 0 35 = v0 at *
  go_wp2_with (refine wpList_load_row_g rfl 30 (.tmp 3) rfl (w.heap.size + 1) rfl _ (us msg.1) (0, 0) _ hB3 Tryd.underlying30 rfl (by rw [msg.sz]; kernel_rfl) ?_)
  clear hB3
  refine (steps_c msg _).mono ?_
  rintro e w4 ⟨vs, rfl, hs, hg4⟩
  obtain ⟨gs, cs, rfl, hgs, hcs, hlt4, -⟩ := own_ints hs (by omega)
  have G4 := Lib.hid hg4
  have HS := Lib.hid hs
  clear hs hg4
  have HS4 := Lib.hid (SignAt.mk (ownsRow_grow H3.out.own G4.out) (H3.out.gro.tr G4.out) : SignAt w2 w4 v0 seed msg 0)
  clear H3 hlt4 hgs
  go_wp2_with fail
  go_loopw [6, 14] (fun v i wr => ∃ j : Nat, j ≤ 35 ∧ i = .int .i64 j ∧ SignAt w2 wr v seed msg j ∧ wr.ownsRow w3.heap.size 3 1 (.slice (some ⟨gs, 0, none⟩) 35 cs) 35 (ints (stepsE msg))) (fun _ i _ => 35 - (intOf i).toNat)
  case atStart => exact ⟨0, by omega, rfl, HS4.out, HS.out⟩
  case round =>
    obtain ⟨j, hj, rfl, hN, hG⟩ := hrel
    have HN := Lib.hid hN
    have HG := Lib.hid hG
    have hcell := own_ints_lit hG (by omega)
    have Hcell := Lib.hid hcell
    clear hcell
    clear hN hG HS4
    by_cases hlt : j < 35
    · have x1 := Hcell.out wr (Grow.refl _) j hlt
      have hj1 : decide ((j : Int) < 35) = true := by simp; omega
      have hdl := stepsE_getD_lt msg j
      generalize hst : (stepsE msg).getD j 0 = d at *
      have Hst := Lib.hid hst
      clear hst
      have g1 := (H1.out.1.grow Hg.out).grow HN.out.gro
      have pw := Lib.hid (HP.out.grow ((H1.out.2.2.tr Hg.out).tr HN.out.gro))
      have hbw := Lib.hid ((Hb.out).grow HN.out.gro)
      go_wp2_with (refine wpList_load_row_g rfl 30 (.tmp 2) rfl (w.heap.size) rfl _ (us seed.1) (0, 0) _ g1 Tryd.underlying30 rfl (by rw [seed.sz]; kernel_rfl) ?_)
      refine (begin_c seed j _ pw.out (by omega)).mono ?_
      rintro e w5 ⟨rfl, hg5⟩
      have G5 := Lib.hid hg5
      clear hg5 g1
      generalize hz : beginE seed j = z at *
      have Hz := Lib.hid hz
      clear hz
      go_wp2_with fail
      refine (walk_c z d b _ (pw.out.grow G5.out) (hbw.out.grow G5.out) (by omega)).mono ?_
      rintro e w6 ⟨rfl, hg6⟩
      have G6 := Lib.hid hg6
      clear hg6
      generalize hy : walkE z d = y at *
      have Hy := Lib.hid hy
      clear hy
      have hown := ownsRow_grow HN.out.own (G5.out.tr G6.out)
      have hbase := Nat.le_trans HN.out.gro.size (G5.out.tr G6.out).size
      go_wp2_with (first | (refine wpList_buildSlice_D rfl 52 30 (.tmp 25) rfl #[.int .u32 0, .int .u32 0, .int .u32 0, .int .u32 0] 16 rfl Tryd.underlying52 info_D y rfl ?_) | (at_builtin; refine wpList_append_new rfl (.tmp 19) (.tmp 26) 52 rfl w2.heap.size 30 (.agg #[.int .u32 0, .int .u32 0, .int .u32 0, .int .u32 0]) 4 16 Tryd.underlying52 info_D rfl (by omega) _ j _ rfl hown 1 1 (y.1.map u) rfl (by simp [y.2]) (us_news y) (by simp only [maxLen]; omega) (by omega) hbase ?_; intro v' w7 hown' hbel' hsame'))
      go_roundw
      case rel =>
        refine ⟨j + 1, by omega, by go_num, ⟨?_, (HN.out.gro.tr (G5.out.tr G6.out)).trans hbel'⟩, ?_⟩
        · rw [signTo_succ, dcells_append, dcells_one, Hst.out, Hz.out, Hy.out]
          exact hown'
        · exact ownsRow_beside (ownsRow_grow HG.out (G5.out.tr G6.out)) hown (by decide) hsame'
      case measure => simp [intOf]; omega
    · have e8 : j = 35 := by omega
      subst e8
      go_wp2
      go_ret
      exact ⟨_, rfl, ownsRow_base HN.out.own (H1.out.2.2.tr Hg.out).size, (H1.out.2.2.tr Hg.out).tr HN.out.gro⟩
end Go.Proofs.YtjbklilnhemhmaaDoor
