import Derived.Test.YtjokaennipmmaaaDoorGen
import Derived.Test.YtjokaennipmmaaaDoorMk
import Derived.Test.YtjokaennipmmaaaDoorB2
/- merkle.half and seedcornref04.Half: the greatest power of two below n. -/
namespace Go.Proofs.YtjokaennipmmaaaDoor
open Go.RowKit
set_option maxHeartbeats 1000000 in
theorem half_c (n : Nat) (w : World) (h2 : 2 ≤ n) (hm : n ≤ 1000000) : Calls Tryd.prog 54 #[.int .i64 (n : Int)] w fun e w' => e = .returned (.int .i64 (halfE n : Int)) ∧ w = w' := by
  go_enter Tryd.func54, Tryd.ntmps54
  go_wp2_with fail
  go_loop [3] (fun k => ∃ j : Nat, k = .int .i64 ((2 ^ j : Nat) : Int) ∧ 2 ^ j < n) (fun k => n - (intOf k).toNat)
  case atStart => exact ⟨0, rfl, by simp; omega⟩
  case round =>
    obtain ⟨j, rfl, hj⟩ := hrel
    have Hs := Lib.hid (fun h : n ≤ 2 * 2 ^ j => halfE_stop (j := j) hj h)
    have Hn := Lib.hid (Nat.pow_succ (n := 2) (m := j))
    have hp := Nat.two_pow_pos j
    generalize hK : 2 ^ j = K at *
    have HK := Lib.hid hK
    clear hK
    by_cases hlt : 2 * K < n
    · have t : decide ((K : Int) < (n : Int) - (K : Int)) = true := by simp; omega
      go_wp2
      go_round
      case rel => exact ⟨j + 1, by rw [Hn.out]; go_num, by rw [Hn.out]; omega⟩
      case measure => simp [intOf]; omega
    · have t : decide ((K : Int) < (n : Int) - (K : Int)) = false := by simp; omega
      go_wp2
      go_ret
      exact ⟨ret_int (by rw [Hs.out (by omega)]), rfl⟩
set_option maxHeartbeats 1000000 in
theorem rhalf_c (n : Nat) (w : World) (h2 : 2 ≤ n) (hm : n ≤ 1000000) : Calls Tryd.prog 44 #[.int .i64 (n : Int)] w fun e w' => e = .returned (.int .i64 (halfE n : Int)) ∧ w = w' := by
  go_enter Tryd.func44, Tryd.ntmps44
  go_wp2_with fail
  go_loop [3] (fun k => ∃ j : Nat, k = .int .i64 ((2 ^ j : Nat) : Int) ∧ 2 ^ j < n) (fun k => n - (intOf k).toNat)
  case atStart => exact ⟨0, rfl, by simp; omega⟩
  case round =>
    obtain ⟨j, rfl, hj⟩ := hrel
    have Hs := Lib.hid (fun h : n ≤ 2 * 2 ^ j => halfE_stop (j := j) hj h)
    have Hn := Lib.hid (Nat.pow_succ (n := 2) (m := j))
    have hp := Nat.two_pow_pos j
    generalize hK : 2 ^ j = K at *
    have HK := Lib.hid hK
    clear hK
    by_cases hlt : 2 * K < n
    · have t : decide (2 * (K : Int) < (n : Int)) = true := by simp; omega
      go_wp2
      go_round
      case rel => exact ⟨j + 1, by rw [Hn.out]; go_num, by rw [Hn.out]; omega⟩
      case measure => simp [intOf]; omega
    · have t : decide (2 * (K : Int) < (n : Int)) = false := by simp; omega
      go_wp2
      go_ret
      exact ⟨ret_int (by rw [Hs.out (by omega)]), rfl⟩
end Go.Proofs.YtjokaennipmmaaaDoor
/- merkle.Root and seedcornref04.Root: the root of a list. -/
namespace Go.Proofs.YtjokaennipmmaaaDoor
open Go.RowKit
/-- The root of none. -/
def noneE : D := ofE []
structure RootAt (w0 w : World) (A : Option Addr) (n c : Nat) (l : List D) : Prop where
  res : Blk w w0.heap.size 30 (us D.zero.1)
  sl : SlD w A n c l
  gro : Grow w0 w
  pla : Places w
theorem RootAt.grow {w0 w w' : World} {A : Option Addr} {n c : Nat} {l : List D} (h : RootAt w0 w A n c l) (hg : Grow w w') : RootAt w0 w' A n c l := ⟨h.res.grow hg, h.sl.grow hg, h.gro.tr hg, h.pla.grow hg⟩
set_option maxRecDepth 100000 in
set_option maxHeartbeats 2000000 in
theorem rroot_c (N : Nat) : ∀ (n : Nat), n ≤ N → N ≤ 1000000 → ∀ (A : Option Addr) (c : Nat) (l : List D) (w : World), Places w → SlD w A n c l →
    Calls Tryd.prog 30 #[.slice A n c] w fun e w' => e = .returned (.agg (us (rootE noneE l).1)) ∧ Grow w w' := by
  induction N with
  | zero =>
    intro n hn _ A c l w hP hs
    have hn0 : n = 0 := by omega
    subst hn0
    have hl : l = [] := List.eq_nil_of_length_eq_zero hs.2.2.1
    subst hl
    rw [rootE_nil]
    have HS := Lib.hid hs
    have HP := Lib.hid hP
    clear hs hP
    go_enter Tryd.func30, Tryd.ntmps30
    go_upto_region 1 with (fail)
    have hg0 : Grow w (w.alloc (.cells (us D.zero.1) 30)) := (Grow.refl _).alloc (Nat.le_refl _) _
    refine wp_gen (fun W => RootAt w W A 0 c []) ⟨Blk.new _ _ _, HS.out.grow hg0, hg0, HP.out.grow hg0⟩ ?_
    clear hg0
    intro w1 h1
    have H1 := Lib.hid h1
    clear h1
    have t0 : (((0 : Nat) : Int) == 0) = true := by decide
    go_wp2_with fail
    refine (rof_c [] _ (by simp)).mono ?_
    rintro e w2 ⟨rfl, hg2⟩
    have H2 := Lib.hid (H1.out.grow hg2)
    have hR := H2.out.res
    have sy := noneE.sz
    have oy := noneE.one
    have hno : ofE [] = noneE := rfl
    rw [hno]
    clear hg2 hno
    generalize hy : noneE = y at *
    have Hy := Lib.hid hy
    clear hy
    go_wp2_with (refine wpList_store_row rfl 30 (.tmp 2) (.tmp 7) rfl (w.heap.size) (us y.1) rfl rfl _ _ hR (by rw [sy]; kernel_rfl) (by rw [sy]; exact D.zero.sz) oy ?_)
    refine bodyPost_ret (results_cell_row (p := 2) (ty := 30) rfl _ _ (w.heap.size) _ (us y.1) (0, 0) _ rfl (setRow_heap _ _ _ _ _ _ hR) Tryd.underlying30 rfl (by rw [sy]; kernel_rfl)) rfl ⟨by rw [Hy.out], ?_⟩
    exact H2.out.gro.setRow (Nat.le_refl _) _
  | succ N ih =>
    intro n hn hN A c l w hP hs
    have IH := Lib.hid (ih · · (by omega))
    clear ih
    by_cases hle : n ≤ N
    · exact IH.out n hle A c l w hP hs
    · have hnN : n = N + 1 := by omega
      clear hn hle
      have HS := Lib.hid hs
      have HP := Lib.hid hP
      clear hs hP
      by_cases h1 : n = 1
      · subst h1
        rw [rootE_of_one noneE HS.out.2.2.1]
        obtain ⟨g, o, rfl, hgl, hgc⟩ := HS.out.2.2.2 (by omega)
        have hel := Lib.hid (fun k hk => hgc 0 k (by omega) hk)
        have HGL := Lib.hid hgl
        clear hgc hgl hnN
        go_enter Tryd.func30, Tryd.ntmps30
        go_upto_region 1 with (fail)
        have hg0 : Grow w (w.alloc (.cells (us D.zero.1) 30)) := (Grow.refl _).alloc (Nat.le_refl _) _
        refine wp_gen (fun W => RootAt w W (some ⟨g, o, none⟩) 1 c l) ⟨Blk.new _ _ _, HS.out.grow hg0, hg0, HP.out.grow hg0⟩ ?_
        clear hg0
        intro w1 h1
        have hR := h1.res
        have hcc := Lib.hid h1.sl.1
        have H1 := Lib.hid h1
        have hel1 := Lib.hid (fun k hk => (h1.gro.cell (p := ⟨g, o + 0 * 4 + k, none⟩) HGL.out).trans (hel.out k hk))
        simp only [Nat.zero_mul, Nat.add_zero] at hel1
        clear h1 hel
        have t0 : (((1 : Nat) : Int) == 0) = false := by decide
        have t1 : (((1 : Nat) : Int) == 1) = true := by decide
        have sy := (l.getD 0 D.zero).sz
        have oy := (l.getD 0 D.zero).one
        generalize hy : l.getD 0 D.zero = y at *
        have Hy := Lib.hid hy
        clear hy
        go_wp2_with (first
          | (refine wpList_load_D rfl 30 (.tmp 12) rfl g o rfl y hel1.out _ Tryd.underlying30 hi_D ?_)
          | (refine wpList_store_row rfl 30 (.tmp 2) (.tmp 13) rfl (w.heap.size) (us y.1) rfl rfl _ _ hR (by rw [sy]; kernel_rfl) (by rw [sy]; exact D.zero.sz) oy ?_))
        refine bodyPost_ret (results_cell_row (p := 2) (ty := 30) rfl _ _ (w.heap.size) _ (us y.1) (0, 0) _ rfl (setRow_heap _ _ _ _ _ _ hR) Tryd.underlying30 rfl (by rw [sy]; kernel_rfl)) rfl ⟨by rw [Hy.out], ?_⟩
        exact H1.out.gro.setRow (Nat.le_refl _) _
      · by_cases h0 : n = 0
        · exact IH.out n (by omega) A c l w HP.out HS.out
        · have h2 : 2 ≤ n := by omega
          have hln := HS.out.2.2.1
          have hmore := Lib.hid (rootE_more noneE (l := l) (by omega))
          rw [hln] at hmore
          have hk1 := halfE_lt h2
          have hk0 := halfE_pos n
          have hhalf := Lib.hid (fun W => rhalf_c n W h2 (by omega))
          generalize hkk : halfE n = k at *
          clear hkk hln
          obtain ⟨g, o, rfl, -, -⟩ := HS.out.2.2.2 (by omega)
          have i1 := Lib.hid (fun (W : World) (hW : RootAt w W (some ⟨g, o, none⟩) n c l) => IH.out k (by omega) (some ⟨g, o, none⟩) c (l.take k) W hW.pla (hW.sl.take k c (by omega) (by have := hW.sl.1; omega) hW.sl.2.1))
          have i2 := Lib.hid (fun (W : World) (hW : RootAt w W (some ⟨g, o, none⟩) n c l) => IH.out (n - k) (by omega) (some ⟨g, o + k * 4, none⟩) (c - k) (l.drop k) W hW.pla (hW.sl.drop k (by omega)))
          have t0 : ((n : Int) == 0) = false := by simp; omega
          have t1 : ((n : Int) == 1) = false := by simp; omega
          clear h0 h1 hN hnN IH
          go_enter Tryd.func30, Tryd.ntmps30
          go_upto_region 1 with (fail)
          have hg0 : Grow w (w.alloc (.cells (us D.zero.1) 30)) := (Grow.refl _).alloc (Nat.le_refl _) _
          refine wp_gen (fun W => RootAt w W (some ⟨g, o, none⟩) n c l) ⟨Blk.new _ _ _, HS.out.grow hg0, hg0, HP.out.grow hg0⟩ ?_
          clear hg0
          intro w1 h1
          have hcc := h1.sl.1
          have H1 := Lib.hid h1
          clear h1
          have hkc : k ≤ c := by omega
          have hkn : k ≤ n := by omega
          have hne : ¬ c = k := by omega
          go_wp2_with fail
          refine (hhalf.out _).mono ?_
          rintro e w2 ⟨rfl, rfl⟩
          generalize hr1 : rootE noneE (l.take k) = r1 at *
          generalize hr2 : rootE noneE (l.drop k) = r2 at *
          clear hr1 hr2 hhalf
          go_upto_region 6 with (fail)
          refine wp_region_tail 9 (fun W => RootAt w W (some ⟨g, o, none⟩) n c l) (by kernel_rfl) (by kernel_rfl) (H1.out.grow (Grow.refl _).drew) ?_
          simp only [List.take_succ_cons, List.take_zero]
          (refine quiet_ex rfl ?_; apply Exists.intro; refine ⟨fun W hW => ?_, ?_⟩)
          · go_simp; try with_reducible rfl
          simp only [Act.put, List.setIfInBounds_toArray, List.set_cons_zero, List.set_cons_succ]
          (refine quiet_ex rfl ?_; apply Exists.intro; refine ⟨fun W hW => ?_, ?_⟩)
          · go_simp; try with_reducible rfl
          simp only [Act.put, List.setIfInBounds_toArray, List.set_cons_zero, List.set_cons_succ]
          (refine quiet_ex rfl ?_; apply Exists.intro; refine ⟨fun W hW => ?_, ?_⟩)
          · go_simp; try with_reducible rfl
          simp only [Act.put, List.setIfInBounds_toArray, List.set_cons_zero, List.set_cons_succ]
          (refine quiet_at rfl ⟨.agg (us r1.1), fun W hW => ?_, ?_⟩)
          · go_simp; exact (i1.out _ hW).mono (fun e w' h => ⟨h.1, hW.grow h.2⟩)
          simp only [Act.put, List.setIfInBounds_toArray, List.set_cons_zero, List.set_cons_succ]
          (refine quiet_ex rfl ?_; apply Exists.intro; refine ⟨fun W hW => ?_, ?_⟩)
          · go_simp; try with_reducible rfl
          simp only [Act.put, List.setIfInBounds_toArray, List.set_cons_zero, List.set_cons_succ]
          (refine quiet_ex rfl ?_; apply Exists.intro; refine ⟨fun W hW => ?_, ?_⟩)
          · go_simp; try with_reducible rfl
          simp only [Act.put, List.setIfInBounds_toArray, List.set_cons_zero, List.set_cons_succ]
          (refine quiet_ex rfl ?_; apply Exists.intro; refine ⟨fun W hW => ?_, ?_⟩)
          · go_simp; try with_reducible rfl
          simp only [Act.put, List.setIfInBounds_toArray, List.set_cons_zero, List.set_cons_succ]
          (refine quiet_at rfl ⟨.agg (us r2.1), fun W hW => ?_, ?_⟩)
          · go_simp; exact (i2.out _ hW).mono (fun e w' h => ⟨h.1, hW.grow h.2⟩)
          simp only [Act.put, List.setIfInBounds_toArray, List.set_cons_zero, List.set_cons_succ]
          (refine quiet_at rfl ⟨.agg (us (pairE r1 r2).1), fun W hW => ?_, ?_⟩)
          · go_simp; exact (rpair_c _ _ _).mono (fun e w' h => ⟨h.1, hW.grow h.2⟩)
          simp only [Act.put, List.setIfInBounds_toArray, List.set_cons_zero, List.set_cons_succ]
          refine wpQuiet_nil ?_
          intro w3 h3
          have hR := h3.res
          have H3 := Lib.hid h3
          clear h3
          rw [← hmore.out]
          have sy := (rootE noneE l).sz
          have oy := (rootE noneE l).one
          generalize hy : rootE noneE l = y at *
          have Hy := Lib.hid hy
          clear hy
          simp only [List.drop_succ_cons, List.drop_zero]
          go_wp2_with (refine wpList_store_row rfl 30 (.tmp 2) (.tmp 25) rfl (w.heap.size) (us y.1) rfl rfl _ _ hR (by rw [sy]; kernel_rfl) (by rw [sy]; exact D.zero.sz) oy ?_)
          refine bodyPost_ret (results_cell_row (p := 2) (ty := 30) rfl _ _ (w.heap.size) _ (us y.1) (0, 0) _ rfl (setRow_heap _ _ _ _ _ _ hR) Tryd.underlying30 rfl (by rw [sy]; kernel_rfl)) rfl ⟨by rw [Hy.out], ?_⟩
          exact H3.out.gro.setRow (Nat.le_refl _) _
end Go.Proofs.YtjokaennipmmaaaDoor
/- merkle.way and seedcornref04.way: the proof of a place. -/
namespace Go.Proofs.YtjokaennipmmaaaDoor
open Go.RowKit
theorem wayE_len20 (l : List D) (i : Nat) (h : l.length ≤ 1000000) : (wayE noneE l i).length ≤ 20 := wayE_length_le noneE 20 l i (by omega)
set_option maxRecDepth 100000 in
set_option maxHeartbeats 4000000 in
theorem rway_c (N : Nat) : ∀ (n : Nat), n ≤ N → N ≤ 1000000 → ∀ (i : Nat) (A : Option Addr) (c : Nat) (l : List D) (w : World), i < n → Places w → SlD w A n c l →
    Calls Tryd.prog 47 #[.slice A n c, .int .i64 (i : Int)] w fun e w' => ∃ v, e = .returned v ∧ w'.ownsRow w.heap.size 30 4 v (wayE noneE l i).length (dcells (wayE noneE l i)) ∧ Grow w w' := by
  induction N with
  | zero => intro n hn _ i A c l w hi; omega
  | succ N ih =>
    intro n hn hN i A c l w hi hP hs
    have IH := Lib.hid (ih · · (by omega))
    clear ih
    by_cases hle : n ≤ N
    · exact IH.out n hle i A c l w hi hP hs
    · have hnN : n = N + 1 := by omega
      clear hn hle
      have HS := Lib.hid hs
      have HP := Lib.hid hP
      have hln := hs.2.2.1
      clear hs hP
      by_cases h1 : n = 1
      · subst h1
        rw [wayE_one noneE i (by omega)]
        have t1 : (((1 : Nat) : Int) == 1) = true := by decide
        clear hln hnN
        go_enter Tryd.func47, Tryd.ntmps47
        go_wp2_with fail
        go_ret
        exact ⟨_, rfl, World.ownsRow_nil _ _ _ _, Grow.refl _⟩
      · have h2 : 2 ≤ n := by omega
        have hk1 := halfE_lt h2
        have hk0 := halfE_pos n
        have hhalf := Lib.hid (fun W => rhalf_c n W h2 (by omega))
        have HL := Lib.hid (fun hi => wayE_left noneE (l := l) (i := i) (by omega) hi)
        have HR := Lib.hid (fun hi => wayE_right noneE (l := l) (i := i) (by omega) hi)
        rw [hln] at HL HR
        have hcc := HS.out.1
        have t1 : ((n : Int) == 1) = false := by simp; omega
        generalize hkk : halfE n = k at *
        clear hkk
        have HLn := Lib.hid hln
        clear hln
        obtain ⟨g, o, rfl, -, -⟩ := HS.out.2.2.2 (by omega)
        have hkc : k ≤ c := by omega
        have hkn : k ≤ n := by omega
        have hne : ¬ c = k := by omega
        have hnb : n ≤ N + 1 := by omega
        clear h1 hnN
        by_cases hik : i < k
        · have hdef := Lib.hid (HL.out hik)
          have i1 := Lib.hid (fun (W : World) (hW : SlD W (some ⟨g, o, none⟩) n c l) (hp : Places W) => IH.out k (by omega) i (some ⟨g, o, none⟩) c (l.take k) W hik hp (hW.take k c (by omega) (by omega) hW.2.1))
          have i2 := Lib.hid (fun (W : World) (hW : SlD W (some ⟨g, o, none⟩) n c l) (hp : Places W) => rroot_c (N + 1) (n - k) (by omega) hN (some ⟨g, o + k * 4, none⟩) (c - k) (l.drop k) W hp (hW.drop k (by omega)))
          have hpl := Lib.hid (wayE_len20 (l.take k) i (by have := HLn.out; simp; omega))
          generalize rootE noneE (l.drop k) = r at *
          have t2 : decide ((i : Int) < (k : Int)) = true := by simpa using hik
          have t3 : decide (i < k) = true := by simpa using hik
          clear IH HL HR
          go_enter Tryd.func47, Tryd.ntmps47
          go_wp2_with fail
          refine (hhalf.out _).mono ?_
          rintro e w2 ⟨rfl, rfl⟩
          clear hhalf
          go_upto_region 5 with (fail)
          refine wp_region_anyC 11 (fun W => SlD W (some ⟨g, o, none⟩) n c l ∧ Grow w W ∧ Places W) (by kernel_rfl) (by kernel_rfl) ⟨HS.out.grow (Grow.refl _).drew, (Grow.refl _).drew, HP.out.grow (Grow.refl _).drew⟩ ?_
          have hS := Stab.true_
          (refine anyC_val (i := 0) (some 15) rfl rfl (by kernel_rfl) (fun _ _ _ _ h => h) (by assumption) rfl ?_; apply Exists.intro; refine ⟨fun W hW => ?_, ?_⟩)
          · go_simp; try with_reducible rfl
          simp only [Act.put, List.setIfInBounds_toArray, List.set_cons_zero, List.set_cons_succ]
          (refine anyC_val (i := 1) (some 16) rfl rfl (by kernel_rfl) (fun _ _ _ _ h => h) (by assumption) rfl ?_; apply Exists.intro; refine ⟨fun W hW => ?_, ?_⟩)
          · go_simp; try with_reducible rfl
          simp only [Act.put, List.setIfInBounds_toArray, List.set_cons_zero, List.set_cons_succ]
          (refine anyC_val (i := 2) (some 17) rfl rfl (by kernel_rfl) (fun _ _ _ _ h => h) (by assumption) rfl ?_; apply Exists.intro; refine ⟨fun W hW => ?_, ?_⟩)
          · go_simp; try with_reducible rfl
          simp only [Act.put, List.setIfInBounds_toArray, List.set_cons_zero, List.set_cons_succ]
          (refine anyC_val (i := 3) (some 18) rfl rfl (by kernel_rfl) (fun _ _ _ _ h => h) (by assumption) rfl ?_; apply Exists.intro; refine ⟨fun W hW => ?_, ?_⟩)
          · go_simp; try with_reducible rfl
          simp only [Act.put, List.setIfInBounds_toArray, List.set_cons_zero, List.set_cons_succ]
          (refine anyC_val (i := 5) (some 20) rfl rfl (by kernel_rfl) (fun _ _ _ _ h => h) (by assumption) rfl ?_; apply Exists.intro; refine ⟨fun W hW => ?_, ?_⟩)
          · go_simp; try with_reducible rfl
          simp only [Act.put, List.setIfInBounds_toArray, List.set_cons_zero, List.set_cons_succ]
          (refine anyC_val (i := 6) (some 21) rfl rfl (by kernel_rfl) (fun _ _ _ _ h => h) (by assumption) rfl ?_; apply Exists.intro; refine ⟨fun W hW => ?_, ?_⟩)
          · go_simp; try with_reducible rfl
          simp only [Act.put, List.setIfInBounds_toArray, List.set_cons_zero, List.set_cons_succ]
          (refine anyC_val (i := 7) (some 22) rfl rfl (by kernel_rfl) (fun _ _ _ _ h => h) (by assumption) rfl ?_; apply Exists.intro; refine ⟨fun W hW => ?_, ?_⟩)
          · go_simp; try with_reducible rfl
          simp only [Act.put, List.setIfInBounds_toArray, List.set_cons_zero, List.set_cons_succ]
          refine anyC_one (i := 4) (by kernel_rfl) (fun W hW _ => ?_)
          refine wpOp_call (some 19) rfl rfl rfl (by go_simp) ((i1.out _ hW.1 hW.2.2).mono ?_)
          rintro e w2 ⟨v, rfl, ho2, hg2⟩
          have ho3 := ownsRow_base ho2 hW.2.1.size
          have hml := hpl.out
          generalize hp : wayE noneE (l.take k) i = p at *
          have Hp := Lib.hid hp
          clear hp
          generalize hm : p.length = m at *
          have Hm := Lib.hid hm
          clear hm
          refine ⟨_, rfl, ⟨hW.1.grow hg2, hW.2.1.tr hg2, hW.2.2.grow hg2⟩, (fun x => x.ownsRow w.heap.size 30 4 v m (dcells p)), (fun _ _ h g => ownsRow_grow h g), ho3, ?_⟩
          clear ho2 ho3 hg2 hW
          have hS : Stab (fun x => x.ownsRow w.heap.size 30 4 v m (dcells p)) := fun _ _ h g => ownsRow_grow h g
          simp only [Act.put, List.setIfInBounds_toArray, List.set_cons_zero, List.set_cons_succ]
          (refine anyC_call (i := 8) (some 23) (.agg (us r.1)) rfl rfl (by kernel_rfl) (fun _ _ _ h => h) (by assumption) rfl (fun W hW => ?_) ?_)
          · go_simp; exact (i2.out _ hW.1 hW.2.2).mono (fun e w' h => ⟨h.1, ⟨hW.1.grow h.2, hW.2.1.tr h.2, hW.2.2.grow h.2⟩, h.2⟩)
          simp only [Act.put, List.setIfInBounds_toArray, List.set_cons_zero, List.set_cons_succ]
          refine anyC_one (i := 9) (by kernel_rfl) (fun W hW hR => ?_)
          refine wpOp_of_list rfl (fun Q' hK => ?_)
          refine wpList_buildSlice_D rfl 22 30 (.tmp 23) rfl #[.int .u32 0, .int .u32 0, .int .u32 0, .int .u32 0] 16 rfl Tryd.underlying22 info_D r rfl ?_
          have ha : Grow W _ := Below.alloc (Grow.refl W) (Nat.le_refl _) (Obj.cells (r.1.map u).toArray 30)
          obtain ⟨b0, hb0⟩ : ∃ b, b = W.heap.size := ⟨_, rfl⟩
          have hbk : Blk (W.alloc (Obj.cells (r.1.map u).toArray 30)) b0 30 (r.1.map u).toArray := hb0 ▸ Blk.new _ _ _
          refine hK _ _ ⟨⟨hW.1.grow ha, hW.2.1.tr ha, hW.2.2.grow ha⟩, (fun x => x.ownsRow w.heap.size 30 4 v m (dcells p) ∧ Blk x b0 30 (r.1.map u).toArray), (fun _ _ h g => ⟨ownsRow_grow h.1 g, h.2.grow g⟩), ⟨ownsRow_grow hR ha, hbk⟩, ?_⟩
          rw [← hb0]
          clear hb0 hW hR ha hbk hK
          simp only [Act.put, List.setIfInBounds_toArray]
          refine anyC_one (i := 10) (by kernel_rfl) (fun W2 hW2 hR2 => ?_)
          refine wpOp_of_list rfl (fun Q' hK => ?_)
          refine wpList_append_blk rfl (.tmp 19) (.tmp 24) 22 rfl w.heap.size 30 (.agg #[.int .u32 0, .int .u32 0, .int .u32 0, .int .u32 0]) 4 16 Tryd.underlying22 info_D rfl (by omega) _ m _ rfl hR2.1 b0 1 1 (r.1.map u) rfl hR2.2 (by simp [r.2]) (us_news r) (by simp only [maxLen]; omega) (by omega) hW2.2.1.size ?_
          intro v' w4 hown' hbel' _
          have hgr4 : Grow w w4 := Below.trans hW2.2.1 hbel'
          refine hK _ _ ⟨⟨HS.out.grow hgr4, hgr4, HP.out.grow hgr4⟩, (fun x => x.ownsRow w.heap.size 30 4 v' (m + 1) (dcells p ++ r.1.map u)), (fun _ _ h g => ownsRow_grow h g), hown', ?_⟩
          clear hbel' hown' hR2 hW2 hK hgr4
          simp only [Act.put]
          refine anyC_tail_lit (by kernel_rfl) (fun w5 h5 hR => ?_)
          simp only [List.drop_succ_cons, List.drop_zero]
          go_wp2_with fail
          go_ret
          refine ⟨_, rfl, ?_, h5.2.1⟩
          rw [hdef.out, List.length_append, Hm.out, dcells_append, dcells_one]
          exact hR
        · have hdef := Lib.hid (HR.out hik)
          have i1 := Lib.hid (fun (W : World) (hW : SlD W (some ⟨g, o, none⟩) n c l) (hp : Places W) => IH.out (n - k) (by omega) (i - k) (some ⟨g, o + k * 4, none⟩) (c - k) (l.drop k) W (by omega) hp (hW.drop k (by omega)))
          have i2 := Lib.hid (fun (W : World) (hW : SlD W (some ⟨g, o, none⟩) n c l) (hp : Places W) => rroot_c (N + 1) k (by omega) hN (some ⟨g, o, none⟩) c (l.take k) W hp (hW.take k c (by omega) (by omega) hW.2.1))
          have hpl := Lib.hid (wayE_len20 (l.drop k) (i - k) (by have := HLn.out; simp; omega))
          generalize rootE noneE (l.take k) = r at *
          have t2 : decide ((i : Int) < (k : Int)) = false := by simpa using hik
          have t3 : decide (i < k) = false := by simpa using hik
          have e1 : IntKind.i64.wrap ((i : Int) - (k : Int)) = ((i - k : Nat) : Int) := by rw [IntKind.wrap_i64]; omega
          clear IH HL HR
          go_enter Tryd.func47, Tryd.ntmps47
          go_wp2_with fail
          refine (hhalf.out _).mono ?_
          rintro e w2 ⟨rfl, rfl⟩
          clear hhalf
          go_upto_region 6 with (fail)
          refine wp_region_anyC 13 (fun W => SlD W (some ⟨g, o, none⟩) n c l ∧ Grow w W ∧ Places W) (by kernel_rfl) (by kernel_rfl) ⟨HS.out.grow (Grow.refl _).drew, (Grow.refl _).drew, HP.out.grow (Grow.refl _).drew⟩ ?_
          have hS := Stab.true_
          (refine anyC_val (i := 0) (some 26) rfl rfl (by kernel_rfl) (fun _ _ _ _ h => h) (by assumption) rfl ?_; apply Exists.intro; refine ⟨fun W hW => ?_, ?_⟩)
          · go_simp; try with_reducible rfl
          simp only [Act.put, List.setIfInBounds_toArray, List.set_cons_zero, List.set_cons_succ]
          (refine anyC_val (i := 1) (some 27) rfl rfl (by kernel_rfl) (fun _ _ _ _ h => h) (by assumption) rfl ?_; apply Exists.intro; refine ⟨fun W hW => ?_, ?_⟩)
          · go_simp; try with_reducible rfl
          simp only [Act.put, List.setIfInBounds_toArray, List.set_cons_zero, List.set_cons_succ]
          (refine anyC_val (i := 2) (some 28) rfl rfl (by kernel_rfl) (fun _ _ _ _ h => h) (by assumption) rfl ?_; apply Exists.intro; refine ⟨fun W hW => ?_, ?_⟩)
          · go_simp; try with_reducible rfl
          simp only [Act.put, List.setIfInBounds_toArray, List.set_cons_zero, List.set_cons_succ]
          (refine anyC_val (i := 3) (some 29) rfl rfl (by kernel_rfl) (fun _ _ _ _ h => h) (by assumption) rfl ?_; apply Exists.intro; refine ⟨fun W hW => ?_, ?_⟩)
          · go_simp; try with_reducible rfl
          simp only [Act.put, List.setIfInBounds_toArray, List.set_cons_zero, List.set_cons_succ]
          (refine anyC_val (i := 4) (some 30) rfl rfl (by kernel_rfl) (fun _ _ _ _ h => h) (by assumption) rfl ?_; apply Exists.intro; refine ⟨fun W hW => ?_, ?_⟩)
          · go_simp; try with_reducible rfl
          simp only [Act.put, List.setIfInBounds_toArray, List.set_cons_zero, List.set_cons_succ]
          (refine anyC_val (i := 5) (some 31) rfl rfl (by kernel_rfl) (fun _ _ _ _ h => h) (by assumption) rfl ?_; apply Exists.intro; refine ⟨fun W hW => ?_, ?_⟩)
          · go_simp; try with_reducible rfl
          simp only [Act.put, List.setIfInBounds_toArray, List.set_cons_zero, List.set_cons_succ]
          (refine anyC_val (i := 7) (some 33) rfl rfl (by kernel_rfl) (fun _ _ _ _ h => h) (by assumption) rfl ?_; apply Exists.intro; refine ⟨fun W hW => ?_, ?_⟩)
          · go_simp; try with_reducible rfl
          simp only [Act.put, List.setIfInBounds_toArray, List.set_cons_zero, List.set_cons_succ]
          (refine anyC_val (i := 8) (some 34) rfl rfl (by kernel_rfl) (fun _ _ _ _ h => h) (by assumption) rfl ?_; apply Exists.intro; refine ⟨fun W hW => ?_, ?_⟩)
          · go_simp; try with_reducible rfl
          simp only [Act.put, List.setIfInBounds_toArray, List.set_cons_zero, List.set_cons_succ]
          (refine anyC_val (i := 9) (some 35) rfl rfl (by kernel_rfl) (fun _ _ _ _ h => h) (by assumption) rfl ?_; apply Exists.intro; refine ⟨fun W hW => ?_, ?_⟩)
          · go_simp; try with_reducible rfl
          simp only [Act.put, List.setIfInBounds_toArray, List.set_cons_zero, List.set_cons_succ]
          refine anyC_one (i := 6) (by kernel_rfl) (fun W hW _ => ?_)
          refine wpOp_call (some 32) rfl rfl rfl (by go_simp) ((i1.out _ hW.1 hW.2.2).mono ?_)
          rintro e w2 ⟨v, rfl, ho2, hg2⟩
          have ho3 := ownsRow_base ho2 hW.2.1.size
          have hml := hpl.out
          generalize hp : wayE noneE (l.drop k) (i - k) = p at *
          have Hp := Lib.hid hp
          clear hp
          generalize hm : p.length = m at *
          have Hm := Lib.hid hm
          clear hm
          refine ⟨_, rfl, ⟨hW.1.grow hg2, hW.2.1.tr hg2, hW.2.2.grow hg2⟩, (fun x => x.ownsRow w.heap.size 30 4 v m (dcells p)), (fun _ _ h g => ownsRow_grow h g), ho3, ?_⟩
          clear ho2 ho3 hg2 hW
          have hS : Stab (fun x => x.ownsRow w.heap.size 30 4 v m (dcells p)) := fun _ _ h g => ownsRow_grow h g
          simp only [Act.put, List.setIfInBounds_toArray, List.set_cons_zero, List.set_cons_succ]
          (refine anyC_call (i := 10) (some 36) (.agg (us r.1)) rfl rfl (by kernel_rfl) (fun _ _ _ h => h) (by assumption) rfl (fun W hW => ?_) ?_)
          · go_simp; exact (i2.out _ hW.1 hW.2.2).mono (fun e w' h => ⟨h.1, ⟨hW.1.grow h.2, hW.2.1.tr h.2, hW.2.2.grow h.2⟩, h.2⟩)
          simp only [Act.put, List.setIfInBounds_toArray, List.set_cons_zero, List.set_cons_succ]
          refine anyC_one (i := 11) (by kernel_rfl) (fun W hW hR => ?_)
          refine wpOp_of_list rfl (fun Q' hK => ?_)
          refine wpList_buildSlice_D rfl 22 30 (.tmp 36) rfl #[.int .u32 0, .int .u32 0, .int .u32 0, .int .u32 0] 16 rfl Tryd.underlying22 info_D r rfl ?_
          have ha : Grow W _ := Below.alloc (Grow.refl W) (Nat.le_refl _) (Obj.cells (r.1.map u).toArray 30)
          obtain ⟨b0, hb0⟩ : ∃ b, b = W.heap.size := ⟨_, rfl⟩
          have hbk : Blk (W.alloc (Obj.cells (r.1.map u).toArray 30)) b0 30 (r.1.map u).toArray := hb0 ▸ Blk.new _ _ _
          refine hK _ _ ⟨⟨hW.1.grow ha, hW.2.1.tr ha, hW.2.2.grow ha⟩, (fun x => x.ownsRow w.heap.size 30 4 v m (dcells p) ∧ Blk x b0 30 (r.1.map u).toArray), (fun _ _ h g => ⟨ownsRow_grow h.1 g, h.2.grow g⟩), ⟨ownsRow_grow hR ha, hbk⟩, ?_⟩
          rw [← hb0]
          clear hb0 hW hR ha hbk hK
          simp only [Act.put, List.setIfInBounds_toArray]
          refine anyC_one (i := 12) (by kernel_rfl) (fun W2 hW2 hR2 => ?_)
          refine wpOp_of_list rfl (fun Q' hK => ?_)
          refine wpList_append_blk rfl (.tmp 32) (.tmp 37) 22 rfl w.heap.size 30 (.agg #[.int .u32 0, .int .u32 0, .int .u32 0, .int .u32 0]) 4 16 Tryd.underlying22 info_D rfl (by omega) _ m _ rfl hR2.1 b0 1 1 (r.1.map u) rfl hR2.2 (by simp [r.2]) (us_news r) (by simp only [maxLen]; omega) (by omega) hW2.2.1.size ?_
          intro v' w4 hown' hbel' _
          have hgr4 : Grow w w4 := Below.trans hW2.2.1 hbel'
          refine hK _ _ ⟨⟨HS.out.grow hgr4, hgr4, HP.out.grow hgr4⟩, (fun x => x.ownsRow w.heap.size 30 4 v' (m + 1) (dcells p ++ r.1.map u)), (fun _ _ h g => ownsRow_grow h g), hown', ?_⟩
          clear hbel' hown' hR2 hW2 hK hgr4
          simp only [Act.put]
          refine anyC_tail_lit (by kernel_rfl) (fun w5 h5 hR => ?_)
          simp only [List.drop_succ_cons, List.drop_zero]
          go_wp2_with fail
          go_ret
          refine ⟨_, rfl, ?_, h5.2.1⟩
          rw [hdef.out, List.length_append, Hm.out, dcells_append, dcells_one]
          exact hR
end Go.Proofs.YtjokaennipmmaaaDoor
/- merkle.wayOn and seedcornref04.goes: the proof that a list goes on its first ones. -/
namespace Go.Proofs.YtjokaennipmmaaaDoor
open Go.RowKit
theorem goesE_len21 (l : List D) (m : Nat) (b : Bool) (h : l.length ≤ 1000000) : (goesE noneE l m b).length ≤ 21 := goesE_length_le noneE 20 l m b (by omega)
theorem own_of_blk {w : World} {b : Nat} {d : D} (h : Blk w b 30 (d.1.map u).toArray) {base : Nat} (hb : base ≤ b) : w.ownsRow base 30 4 (.slice (some ⟨b, 0, none⟩) 1 1) 1 (dcells [d]) := by
  refine ⟨by rw [dcells_length]; rfl, .inr ⟨b, 1, _, rfl, hb, h, Nat.le_refl _, by simp [maxLen], by simp [d.2], ?_⟩⟩
  rw [dcells_one]
  simp only [Nat.one_mul]
  exact List.take_of_length_le (by simp [d.2])
end Go.Proofs.YtjokaennipmmaaaDoor
/- seedcornref04.Same: the same lists of digests? -/
namespace Go.Proofs.YtjokaennipmmaaaDoor
open Go.RowKit
theorem D_lists_eq {l l' : List D} (h : l.length = l'.length) (hj : ∀ j, j < l.length → l.getD j D.zero = l'.getD j D.zero) : l = l' := by
  apply List.ext_getElem h
  intro j h1 h2
  have := hj j h1
  simpa [List.getD, h1, h2] using this
end Go.Proofs.YtjokaennipmmaaaDoor
/- Prove and ProveOn of the program and of the document: the proof, or the error. -/
namespace Go.Proofs.YtjokaennipmmaaaDoor
open Go.RowKit
set_option maxHeartbeats 1000000 in
theorem rprove_c (n : Nat) (hn : n ≤ 1000000) (i : Nat) (A : Option Addr) (c : Nat) (l : List D) (w : World) (hi : i < n) (hP : Places w) (hs : SlD w A n c l) :
    Calls Tryd.prog 32 #[.slice A n c, .int .i64 (i : Int)] w fun e w' => ∃ v, e = .returned (.tuple #[v, .int .i64 0]) ∧ w'.ownsRow w.heap.size 30 4 v (wayE noneE l i).length (dcells (wayE noneE l i)) ∧ Grow w w' := by
  have HP := Lib.hid hP
  have HS := Lib.hid hs
  clear hP hs
  have t1 : decide ((i : Int) < 0) = false := by simp
  have t2 : decide ((n : Int) ≤ (i : Int)) = false := by simp; omega
  have t3 : decide (n ≤ i) = false := by simp; omega
  go_enter Tryd.func32, Tryd.ntmps32
  go_wp2_with fail
  refine (rway_c n n (Nat.le_refl _) hn i A c l _ hi HP.out HS.out).mono ?_
  rintro e w2 ⟨v, rfl, ho, hg⟩
  have HO := Lib.hid ho
  have HG := Lib.hid hg
  clear ho hg
  go_wp2_with fail
  go_ret2
  exact ⟨v, rfl, HO.out, HG.out⟩
set_option maxHeartbeats 1000000 in
theorem rprove_no (n : Nat) (x : Int) (A : Option Addr) (c : Nat) (w : World) (h : x < 0 ∨ (n : Int) ≤ x) :
    Calls Tryd.prog 32 #[.slice A n c, .int .i64 x] w fun e w' => e = .returned (.tuple #[.slice none 0 0, .int .i64 1]) ∧ Grow w w' := by
  by_cases h1 : x < 0
  · have t1 : decide (x < 0) = true := decide_eq_true h1
    clear h h1
    go_enter Tryd.func32, Tryd.ntmps32
    go_wp2_with fail
    go_ret2
    exact ⟨rfl, Grow.refl _⟩
  · have t1 : decide (x < 0) = false := decide_eq_false h1
    have t2 : decide ((n : Int) ≤ x) = true := decide_eq_true (by omega)
    clear h h1
    go_enter Tryd.func32, Tryd.ntmps32
    go_wp2_with fail
    go_ret2
    exact ⟨rfl, Grow.refl _⟩
end Go.Proofs.YtjokaennipmmaaaDoor
