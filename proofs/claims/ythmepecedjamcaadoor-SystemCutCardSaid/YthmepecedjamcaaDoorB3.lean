import Derived.Test.YthmepecedjamcaaDoorGen
import Derived.Test.YthmepecedjamcaaDoorMk
import Derived.Test.YthmepecedjamcaaDoorB2
/- merkle.half and seedcornref04.Half: the greatest power of two below n. -/
namespace Go.Proofs.YthmepecedjamcaaDoor
open Go.RowKit
set_option maxHeartbeats 1000000 in
theorem half_c (n : Nat) (w : World) (h2 : 2 ≤ n) (hm : n ≤ 1000000) : Calls Tryd.prog 69 #[.int .i64 (n : Int)] w fun e w' => e = .returned (.int .i64 (halfE n : Int)) ∧ w = w' := by
  go_enter Tryd.func69, Tryd.ntmps69
  go_wp2_with fail
  go_loop [3] (fun k => ∃ j : Nat, k = .int .i64 ((2 ^ j : Nat) : Int) ∧ 2 ^ j < n) (fun k => n - (intOf k).toNat)
  case atStart => exact ⟨0, rfl, by simp; omega⟩
  case round =>
    obtain ⟨j, rfl, hj⟩ := hrel
    have Hs := Lib.hid (fun h : n ≤ 2 * 2 ^ j => halfE_stop (j := j) hj h)
    have Hn := Lib.hid (Nat.pow_succ (n := 2) (m := j))
    have hp := Nat.two_pow_pos j
    generalize hK : 2 ^ j = K at *
    have HK := Lib.hid hK
    clear hK
    by_cases hlt : 2 * K < n
    · have t : decide ((K : Int) < (n : Int) - (K : Int)) = true := by simp; omega
      go_wp2
      go_round
      case rel => exact ⟨j + 1, by rw [Hn.out]; go_num, by rw [Hn.out]; omega⟩
      case measure => simp [intOf]; omega
    · have t : decide ((K : Int) < (n : Int) - (K : Int)) = false := by simp; omega
      go_wp2
      go_ret
      exact ⟨ret_int (by rw [Hs.out (by omega)]), rfl⟩
end Go.Proofs.YthmepecedjamcaaDoor
/- merkle.Root and seedcornref04.Root: the root of a list. -/
namespace Go.Proofs.YthmepecedjamcaaDoor
open Go.RowKit
/-- The root of none. -/
def noneE : D := ofE []
structure RootAt (w0 w : World) (A : Option Addr) (n c : Nat) (l : List D) : Prop where
  res : Blk w w0.heap.size 39 (us D.zero.1)
  sl : SlD w A n c l
  gro : Grow w0 w
  pla : Places w
theorem RootAt.grow {w0 w w' : World} {A : Option Addr} {n c : Nat} {l : List D} (h : RootAt w0 w A n c l) (hg : Grow w w') : RootAt w0 w' A n c l := ⟨h.res.grow hg, h.sl.grow hg, h.gro.tr hg, h.pla.grow hg⟩
set_option maxRecDepth 100000 in
set_option maxHeartbeats 2000000 in
theorem root_c (N : Nat) : ∀ (n : Nat), n ≤ N → N ≤ 1000000 → ∀ (A : Option Addr) (c : Nat) (l : List D) (w : World), Places w → SlD w A n c l →
    Calls Tryd.prog 57 #[.slice A n c] w fun e w' => e = .returned (.agg (us (rootE noneE l).1)) ∧ Grow w w' := by
  induction N with
  | zero =>
    intro n hn _ A c l w hP hs
    have hn0 : n = 0 := by omega
    subst hn0
    have hl : l = [] := List.eq_nil_of_length_eq_zero hs.2.2.1
    subst hl
    rw [rootE_nil]
    have HS := Lib.hid hs
    have HP := Lib.hid hP
    clear hs hP
    go_enter Tryd.func57, Tryd.ntmps57
    go_upto_region 1 with (fail)
    have hg0 : Grow w (w.alloc (.cells (us D.zero.1) 39)) := (Grow.refl _).alloc (Nat.le_refl _) _
    refine wp_gen (fun W => RootAt w W A 0 c []) ⟨Blk.new _ _ _, HS.out.grow hg0, hg0, HP.out.grow hg0⟩ ?_
    clear hg0
    intro w1 h1
    have H1 := Lib.hid h1
    clear h1
    have t0 : (((0 : Nat) : Int) == 0) = true := by decide
    go_wp2_with fail
    refine (of_c [] _ (by simp) H1.out.pla).mono ?_
    rintro e w2 ⟨rfl, hg2⟩
    have H2 := Lib.hid (H1.out.grow hg2)
    have hR := H2.out.res
    have sy := noneE.sz
    have oy := noneE.one
    have hno : ofE [] = noneE := rfl
    rw [hno]
    clear hg2 hno
    generalize hy : noneE = y at *
    have Hy := Lib.hid hy
    clear hy
    go_wp2_with (refine wpList_store_row rfl 39 (.tmp 2) (.tmp 8) rfl (w.heap.size) (us y.1) rfl rfl _ _ hR (by rw [sy]; kernel_rfl) (by rw [sy]; exact D.zero.sz) oy ?_)
    refine bodyPost_ret (results_cell_row (p := 2) (ty := 39) rfl _ _ (w.heap.size) _ (us y.1) (0, 0) _ rfl (setRow_heap _ _ _ _ _ _ hR) Tryd.underlying39 rfl (by rw [sy]; kernel_rfl)) rfl ⟨by rw [Hy.out], ?_⟩
    exact H2.out.gro.setRow (Nat.le_refl _) _
  | succ N ih =>
    intro n hn hN A c l w hP hs
    have IH := Lib.hid (ih · · (by omega))
    clear ih
    by_cases hle : n ≤ N
    · exact IH.out n hle A c l w hP hs
    · have hnN : n = N + 1 := by omega
      clear hn hle
      have HS := Lib.hid hs
      have HP := Lib.hid hP
      clear hs hP
      by_cases h1 : n = 1
      · subst h1
        rw [rootE_of_one noneE HS.out.2.2.1]
        obtain ⟨g, o, rfl, hgl, hgc⟩ := HS.out.2.2.2 (by omega)
        have hel := Lib.hid (fun k hk => hgc 0 k (by omega) hk)
        have HGL := Lib.hid hgl
        clear hgc hgl hnN
        go_enter Tryd.func57, Tryd.ntmps57
        go_upto_region 1 with (fail)
        have hg0 : Grow w (w.alloc (.cells (us D.zero.1) 39)) := (Grow.refl _).alloc (Nat.le_refl _) _
        refine wp_gen (fun W => RootAt w W (some ⟨g, o, none⟩) 1 c l) ⟨Blk.new _ _ _, HS.out.grow hg0, hg0, HP.out.grow hg0⟩ ?_
        clear hg0
        intro w1 h1
        have hR := h1.res
        have hcc := Lib.hid h1.sl.1
        have H1 := Lib.hid h1
        have hel1 := Lib.hid (fun k hk => (h1.gro.cell (p := ⟨g, o + 0 * 4 + k, none⟩) HGL.out).trans (hel.out k hk))
        simp only [Nat.zero_mul, Nat.add_zero] at hel1
        clear h1 hel
        have t0 : (((1 : Nat) : Int) == 0) = false := by decide
        have t1 : (((1 : Nat) : Int) == 1) = true := by decide
        have sy := (l.getD 0 D.zero).sz
        have oy := (l.getD 0 D.zero).one
        generalize hy : l.getD 0 D.zero = y at *
        have Hy := Lib.hid hy
        clear hy
        go_wp2_with (first
          | (refine wpList_load_D rfl 39 (.tmp 12) rfl g o rfl y hel1.out _ Tryd.underlying39 hi_D ?_)
          | (refine wpList_store_row rfl 39 (.tmp 2) (.tmp 13) rfl (w.heap.size) (us y.1) rfl rfl _ _ hR (by rw [sy]; kernel_rfl) (by rw [sy]; exact D.zero.sz) oy ?_))
        refine bodyPost_ret (results_cell_row (p := 2) (ty := 39) rfl _ _ (w.heap.size) _ (us y.1) (0, 0) _ rfl (setRow_heap _ _ _ _ _ _ hR) Tryd.underlying39 rfl (by rw [sy]; kernel_rfl)) rfl ⟨by rw [Hy.out], ?_⟩
        exact H1.out.gro.setRow (Nat.le_refl _) _
      · by_cases h0 : n = 0
        · exact IH.out n (by omega) A c l w HP.out HS.out
        · have h2 : 2 ≤ n := by omega
          have hln := HS.out.2.2.1
          have hmore := Lib.hid (rootE_more noneE (l := l) (by omega))
          rw [hln] at hmore
          have hk1 := halfE_lt h2
          have hk0 := halfE_pos n
          have hhalf := Lib.hid (fun W => half_c n W h2 (by omega))
          generalize hkk : halfE n = k at *
          clear hkk hln
          obtain ⟨g, o, rfl, -, -⟩ := HS.out.2.2.2 (by omega)
          have i1 := Lib.hid (fun (W : World) (hW : RootAt w W (some ⟨g, o, none⟩) n c l) => IH.out k (by omega) (some ⟨g, o, none⟩) c (l.take k) W hW.pla (hW.sl.take k c (by omega) (by have := hW.sl.1; omega) hW.sl.2.1))
          have i2 := Lib.hid (fun (W : World) (hW : RootAt w W (some ⟨g, o, none⟩) n c l) => IH.out (n - k) (by omega) (some ⟨g, o + k * 4, none⟩) (c - k) (l.drop k) W hW.pla (hW.sl.drop k (by omega)))
          have t0 : ((n : Int) == 0) = false := by simp; omega
          have t1 : ((n : Int) == 1) = false := by simp; omega
          clear h0 h1 hN hnN IH
          go_enter Tryd.func57, Tryd.ntmps57
          go_upto_region 1 with (fail)
          have hg0 : Grow w (w.alloc (.cells (us D.zero.1) 39)) := (Grow.refl _).alloc (Nat.le_refl _) _
          refine wp_gen (fun W => RootAt w W (some ⟨g, o, none⟩) n c l) ⟨Blk.new _ _ _, HS.out.grow hg0, hg0, HP.out.grow hg0⟩ ?_
          clear hg0
          intro w1 h1
          have hcc := h1.sl.1
          have H1 := Lib.hid h1
          clear h1
          have hkc : k ≤ c := by omega
          have hkn : k ≤ n := by omega
          have hne : ¬ c = k := by omega
          go_wp2_with fail
          refine (hhalf.out _).mono ?_
          rintro e w2 ⟨rfl, rfl⟩
          generalize hr1 : rootE noneE (l.take k) = r1 at *
          generalize hr2 : rootE noneE (l.drop k) = r2 at *
          clear hr1 hr2 hhalf
          go_upto_region 7 with (fail)
          refine wp_region_tail 9 (fun W => RootAt w W (some ⟨g, o, none⟩) n c l) (by kernel_rfl) (by kernel_rfl) (H1.out.grow (Grow.refl _).drew) ?_
          simp only [List.take_succ_cons, List.take_zero]
          (refine quiet_ex rfl ?_; apply Exists.intro; refine ⟨fun W hW => ?_, ?_⟩)
          · go_simp; try with_reducible rfl
          simp only [Act.put, List.setIfInBounds_toArray, List.set_cons_zero, List.set_cons_succ]
          (refine quiet_ex rfl ?_; apply Exists.intro; refine ⟨fun W hW => ?_, ?_⟩)
          · go_simp; try with_reducible rfl
          simp only [Act.put, List.setIfInBounds_toArray, List.set_cons_zero, List.set_cons_succ]
          (refine quiet_ex rfl ?_; apply Exists.intro; refine ⟨fun W hW => ?_, ?_⟩)
          · go_simp; try with_reducible rfl
          simp only [Act.put, List.setIfInBounds_toArray, List.set_cons_zero, List.set_cons_succ]
          (refine quiet_at rfl ⟨.agg (us r1.1), fun W hW => ?_, ?_⟩)
          · go_simp; exact (i1.out _ hW).mono (fun e w' h => ⟨h.1, hW.grow h.2⟩)
          simp only [Act.put, List.setIfInBounds_toArray, List.set_cons_zero, List.set_cons_succ]
          (refine quiet_ex rfl ?_; apply Exists.intro; refine ⟨fun W hW => ?_, ?_⟩)
          · go_simp; try with_reducible rfl
          simp only [Act.put, List.setIfInBounds_toArray, List.set_cons_zero, List.set_cons_succ]
          (refine quiet_ex rfl ?_; apply Exists.intro; refine ⟨fun W hW => ?_, ?_⟩)
          · go_simp; try with_reducible rfl
          simp only [Act.put, List.setIfInBounds_toArray, List.set_cons_zero, List.set_cons_succ]
          (refine quiet_ex rfl ?_; apply Exists.intro; refine ⟨fun W hW => ?_, ?_⟩)
          · go_simp; try with_reducible rfl
          simp only [Act.put, List.setIfInBounds_toArray, List.set_cons_zero, List.set_cons_succ]
          (refine quiet_at rfl ⟨.agg (us r2.1), fun W hW => ?_, ?_⟩)
          · go_simp; exact (i2.out _ hW).mono (fun e w' h => ⟨h.1, hW.grow h.2⟩)
          simp only [Act.put, List.setIfInBounds_toArray, List.set_cons_zero, List.set_cons_succ]
          (refine quiet_at rfl ⟨.agg (us (pairE r1 r2).1), fun W hW => ?_, ?_⟩)
          · go_simp; exact (pair_c _ _ _ hW.pla).mono (fun e w' h => ⟨h.1, hW.grow h.2⟩)
          simp only [Act.put, List.setIfInBounds_toArray, List.set_cons_zero, List.set_cons_succ]
          refine wpQuiet_nil ?_
          intro w3 h3
          have hR := h3.res
          have H3 := Lib.hid h3
          clear h3
          rw [← hmore.out]
          have sy := (rootE noneE l).sz
          have oy := (rootE noneE l).one
          generalize hy : rootE noneE l = y at *
          have Hy := Lib.hid hy
          clear hy
          simp only [List.drop_succ_cons, List.drop_zero]
          go_wp2_with (refine wpList_store_row rfl 39 (.tmp 2) (.tmp 25) rfl (w.heap.size) (us y.1) rfl rfl _ _ hR (by rw [sy]; kernel_rfl) (by rw [sy]; exact D.zero.sz) oy ?_)
          refine bodyPost_ret (results_cell_row (p := 2) (ty := 39) rfl _ _ (w.heap.size) _ (us y.1) (0, 0) _ rfl (setRow_heap _ _ _ _ _ _ hR) Tryd.underlying39 rfl (by rw [sy]; kernel_rfl)) rfl ⟨by rw [Hy.out], ?_⟩
          exact H3.out.gro.setRow (Nat.le_refl _) _
end Go.Proofs.YthmepecedjamcaaDoor
/- merkle.way and seedcornref04.way: the proof of a place. -/
namespace Go.Proofs.YthmepecedjamcaaDoor
open Go.RowKit
theorem wayE_len20 (l : List D) (i : Nat) (h : l.length ≤ 1000000) : (wayE noneE l i).length ≤ 20 := wayE_length_le noneE 20 l i (by omega)
end Go.Proofs.YthmepecedjamcaaDoor
/- merkle.wayOn and seedcornref04.goes: the proof that a list goes on its first ones. -/
namespace Go.Proofs.YthmepecedjamcaaDoor
open Go.RowKit
theorem goesE_len21 (l : List D) (m : Nat) (b : Bool) (h : l.length ≤ 1000000) : (goesE noneE l m b).length ≤ 21 := goesE_length_le noneE 20 l m b (by omega)
theorem own_of_blk {w : World} {b : Nat} {d : D} (h : Blk w b 39 (d.1.map u).toArray) {base : Nat} (hb : base ≤ b) : w.ownsRow base 39 4 (.slice (some ⟨b, 0, none⟩) 1 1) 1 (dcells [d]) := by
  refine ⟨by rw [dcells_length]; rfl, .inr ⟨b, 1, _, rfl, hb, h, Nat.le_refl _, by simp [maxLen], by simp [d.2], ?_⟩⟩
  rw [dcells_one]
  simp only [Nat.one_mul]
  exact List.take_of_length_le (by simp [d.2])
end Go.Proofs.YthmepecedjamcaaDoor
/- seedcornref04.Same: the same lists of digests? -/
namespace Go.Proofs.YthmepecedjamcaaDoor
open Go.RowKit
theorem D_lists_eq {l l' : List D} (h : l.length = l'.length) (hj : ∀ j, j < l.length → l.getD j D.zero = l'.getD j D.zero) : l = l' := by
  apply List.ext_getElem h
  intro j h1 h2
  have := hj j h1
  simpa [List.getD, h1, h2] using this
end Go.Proofs.YthmepecedjamcaaDoor
/- Prove and ProveOn of the program and of the document: the proof, or the error. -/
namespace Go.Proofs.YthmepecedjamcaaDoor
open Go.RowKit
end Go.Proofs.YthmepecedjamcaaDoor
