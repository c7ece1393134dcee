/- merkle.way and seedcornref04.way: the proof of a place. -/
import Derived.Test.YtamllmoakgnjoaaDoorRoot
namespace Go.Proofs.YtamllmoakgnjoaaDoor
open Go.RowKit
theorem wayE_len20 (l : List D) (i : Nat) (h : l.length ≤ 1000000) : (wayE noneE l i).length ≤ 20 := wayE_length_le noneE 20 l i (by omega)
set_option maxRecDepth 100000 in
set_option maxHeartbeats 4000000 in
theorem way_c (N : Nat) : ∀ (n : Nat), n ≤ N → N ≤ 1000000 → ∀ (i : Nat) (A : Option Addr) (c : Nat) (l : List D) (w : World), i < n → Places w → SlD w A n c l →
    Calls Tryd.prog 67 #[.slice A n c, .int .i64 (i : Int)] w fun e w' => ∃ v, e = .returned v ∧ w'.ownsRow w.heap.size 27 4 v (wayE noneE l i).length (dcells (wayE noneE l i)) ∧ Grow w w' := by
  induction N with
  | zero => intro n hn _ i A c l w hi; omega
  | succ N ih =>
    intro n hn hN i A c l w hi hP hs
    have IH := Lib.hid (ih · · (by omega))
    clear ih
    by_cases hle : n ≤ N
    · exact IH.out n hle i A c l w hi hP hs
    · have hnN : n = N + 1 := by omega
      clear hn hle
      have HS := Lib.hid hs
      have HP := Lib.hid hP
      have hln := hs.2.2.1
      clear hs hP
      by_cases h1 : n = 1
      · subst h1
        rw [wayE_one noneE i (by omega)]
        have t1 : (((1 : Nat) : Int) == 1) = true := by decide
        clear hln hnN
        go_enter Tryd.func67, Tryd.ntmps67
        go_wp2_with fail
        go_ret
        exact ⟨_, rfl, World.ownsRow_nil _ _ _ _, Grow.refl _⟩
      · have h2 : 2 ≤ n := by omega
        have hk1 := halfE_lt h2
        have hk0 := halfE_pos n
        have hhalf := Lib.hid (fun W => half_c n W h2 (by omega))
        have HL := Lib.hid (fun hi => wayE_left noneE (l := l) (i := i) (by omega) hi)
        have HR := Lib.hid (fun hi => wayE_right noneE (l := l) (i := i) (by omega) hi)
        rw [hln] at HL HR
        have hcc := HS.out.1
        have t1 : ((n : Int) == 1) = false := by simp; omega
        generalize hkk : halfE n = k at *
        clear hkk
        have HLn := Lib.hid hln
        clear hln
        obtain ⟨g, o, rfl, -, -⟩ := HS.out.2.2.2 (by omega)
        have hkc : k ≤ c := by omega
        have hkn : k ≤ n := by omega
        have hne : ¬ c = k := by omega
        have hnb : n ≤ N + 1 := by omega
        clear h1 hnN
        by_cases hik : i < k
        · have hdef := Lib.hid (HL.out hik)
          have i1 := Lib.hid (fun (W : World) (hW : SlD W (some ⟨g, o, none⟩) n c l) (hp : Places W) => IH.out k (by omega) i (some ⟨g, o, none⟩) c (l.take k) W hik hp (hW.take k c (by omega) (by omega) hW.2.1))
          have i2 := Lib.hid (fun (W : World) (hW : SlD W (some ⟨g, o, none⟩) n c l) (hp : Places W) => root_c (N + 1) (n - k) (by omega) hN (some ⟨g, o + k * 4, none⟩) (c - k) (l.drop k) W hp (hW.drop k (by omega)))
          have hpl := Lib.hid (wayE_len20 (l.take k) i (by have := HLn.out; simp; omega))
          generalize rootE noneE (l.drop k) = r at *
          have t2 : decide ((i : Int) < (k : Int)) = true := by simpa using hik
          have t3 : decide (i < k) = true := by simpa using hik
          clear IH HL HR
          go_enter Tryd.func67, Tryd.ntmps67
          go_wp2_with fail
          refine (hhalf.out _).mono ?_
          rintro e w2 ⟨rfl, rfl⟩
          clear hhalf
          go_upto_region 5 with (fail)
          refine wp_region_anyC 11 (fun W => SlD W (some ⟨g, o, none⟩) n c l ∧ Grow w W ∧ Places W) (by kernel_rfl) (by kernel_rfl) ⟨HS.out.grow (Grow.refl _).drew, (Grow.refl _).drew, HP.out.grow (Grow.refl _).drew⟩ ?_
          have hS := Stab.true_
          (refine anyC_val (i := 0) (some 15) rfl rfl (by kernel_rfl) (fun _ _ _ _ h => h) (by assumption) rfl ?_; apply Exists.intro; refine ⟨fun W hW => ?_, ?_⟩)
          · go_simp; try with_reducible rfl
          simp only [Act.put, List.setIfInBounds_toArray, List.set_cons_zero, List.set_cons_succ]
          (refine anyC_val (i := 1) (some 16) rfl rfl (by kernel_rfl) (fun _ _ _ _ h => h) (by assumption) rfl ?_; apply Exists.intro; refine ⟨fun W hW => ?_, ?_⟩)
          · go_simp; try with_reducible rfl
          simp only [Act.put, List.setIfInBounds_toArray, List.set_cons_zero, List.set_cons_succ]
          (refine anyC_val (i := 2) (some 17) rfl rfl (by kernel_rfl) (fun _ _ _ _ h => h) (by assumption) rfl ?_; apply Exists.intro; refine ⟨fun W hW => ?_, ?_⟩)
          · go_simp; try with_reducible rfl
          simp only [Act.put, List.setIfInBounds_toArray, List.set_cons_zero, List.set_cons_succ]
          (refine anyC_val (i := 3) (some 18) rfl rfl (by kernel_rfl) (fun _ _ _ _ h => h) (by assumption) rfl ?_; apply Exists.intro; refine ⟨fun W hW => ?_, ?_⟩)
          · go_simp; try with_reducible rfl
          simp only [Act.put, List.setIfInBounds_toArray, List.set_cons_zero, List.set_cons_succ]
          (refine anyC_val (i := 5) (some 20) rfl rfl (by kernel_rfl) (fun _ _ _ _ h => h) (by assumption) rfl ?_; apply Exists.intro; refine ⟨fun W hW => ?_, ?_⟩)
          · go_simp; try with_reducible rfl
          simp only [Act.put, List.setIfInBounds_toArray, List.set_cons_zero, List.set_cons_succ]
          (refine anyC_val (i := 6) (some 21) rfl rfl (by kernel_rfl) (fun _ _ _ _ h => h) (by assumption) rfl ?_; apply Exists.intro; refine ⟨fun W hW => ?_, ?_⟩)
          · go_simp; try with_reducible rfl
          simp only [Act.put, List.setIfInBounds_toArray, List.set_cons_zero, List.set_cons_succ]
          (refine anyC_val (i := 7) (some 22) rfl rfl (by kernel_rfl) (fun _ _ _ _ h => h) (by assumption) rfl ?_; apply Exists.intro; refine ⟨fun W hW => ?_, ?_⟩)
          · go_simp; try with_reducible rfl
          simp only [Act.put, List.setIfInBounds_toArray, List.set_cons_zero, List.set_cons_succ]
          refine anyC_one (i := 4) (by kernel_rfl) (fun W hW _ => ?_)
          refine wpOp_call (some 19) rfl rfl rfl (by go_simp) ((i1.out _ hW.1 hW.2.2).mono ?_)
          rintro e w2 ⟨v, rfl, ho2, hg2⟩
          have ho3 := ownsRow_base ho2 hW.2.1.size
          have hml := hpl.out
          generalize hp : wayE noneE (l.take k) i = p at *
          have Hp := Lib.hid hp
          clear hp
          generalize hm : p.length = m at *
          have Hm := Lib.hid hm
          clear hm
          refine ⟨_, rfl, ⟨hW.1.grow hg2, hW.2.1.tr hg2, hW.2.2.grow hg2⟩, (fun x => x.ownsRow w.heap.size 27 4 v m (dcells p)), (fun _ _ h g => ownsRow_grow h g), ho3, ?_⟩
          clear ho2 ho3 hg2 hW
          have hS : Stab (fun x => x.ownsRow w.heap.size 27 4 v m (dcells p)) := fun _ _ h g => ownsRow_grow h g
          simp only [Act.put, List.setIfInBounds_toArray, List.set_cons_zero, List.set_cons_succ]
          (refine anyC_call (i := 8) (some 23) (.agg (us r.1)) rfl rfl (by kernel_rfl) (fun _ _ _ h => h) (by assumption) rfl (fun W hW => ?_) ?_)
          · go_simp; exact (i2.out _ hW.1 hW.2.2).mono (fun e w' h => ⟨h.1, ⟨hW.1.grow h.2, hW.2.1.tr h.2, hW.2.2.grow h.2⟩, h.2⟩)
          simp only [Act.put, List.setIfInBounds_toArray, List.set_cons_zero, List.set_cons_succ]
          refine anyC_one (i := 9) (by kernel_rfl) (fun W hW hR => ?_)
          refine wpOp_of_list rfl (fun Q' hK => ?_)
          refine wpList_buildSlice_D rfl 38 27 (.tmp 23) rfl #[.int .u32 0, .int .u32 0, .int .u32 0, .int .u32 0] 16 rfl Tryd.underlying38 info_D r rfl ?_
          have ha : Grow W _ := Below.alloc (Grow.refl W) (Nat.le_refl _) (Obj.cells (r.1.map u).toArray 27)
          obtain ⟨b0, hb0⟩ : ∃ b, b = W.heap.size := ⟨_, rfl⟩
          have hbk : Blk (W.alloc (Obj.cells (r.1.map u).toArray 27)) b0 27 (r.1.map u).toArray := hb0 ▸ Blk.new _ _ _
          refine hK _ _ ⟨⟨hW.1.grow ha, hW.2.1.tr ha, hW.2.2.grow ha⟩, (fun x => x.ownsRow w.heap.size 27 4 v m (dcells p) ∧ Blk x b0 27 (r.1.map u).toArray), (fun _ _ h g => ⟨ownsRow_grow h.1 g, h.2.grow g⟩), ⟨ownsRow_grow hR ha, hbk⟩, ?_⟩
          rw [← hb0]
          clear hb0 hW hR ha hbk hK
          simp only [Act.put, List.setIfInBounds_toArray]
          refine anyC_one (i := 10) (by kernel_rfl) (fun W2 hW2 hR2 => ?_)
          refine wpOp_of_list rfl (fun Q' hK => ?_)
          refine wpList_append_blk rfl (.tmp 19) (.tmp 24) 38 rfl w.heap.size 27 (.agg #[.int .u32 0, .int .u32 0, .int .u32 0, .int .u32 0]) 4 16 Tryd.underlying38 info_D rfl (by omega) _ m _ rfl hR2.1 b0 1 1 (r.1.map u) rfl hR2.2 (by simp [r.2]) (us_news r) (by simp only [maxLen]; omega) (by omega) hW2.2.1.size ?_
          intro v' w4 hown' hbel' _
          have hgr4 : Grow w w4 := Below.trans hW2.2.1 hbel'
          refine hK _ _ ⟨⟨HS.out.grow hgr4, hgr4, HP.out.grow hgr4⟩, (fun x => x.ownsRow w.heap.size 27 4 v' (m + 1) (dcells p ++ r.1.map u)), (fun _ _ h g => ownsRow_grow h g), hown', ?_⟩
          clear hbel' hown' hR2 hW2 hK hgr4
          simp only [Act.put]
          refine anyC_tail_lit (by kernel_rfl) (fun w5 h5 hR => ?_)
          simp only [List.drop_succ_cons, List.drop_zero]
          go_wp2_with fail
          go_ret
          refine ⟨_, rfl, ?_, h5.2.1⟩
          rw [hdef.out, List.length_append, Hm.out, dcells_append, dcells_one]
          exact hR
        · have hdef := Lib.hid (HR.out hik)
          have i1 := Lib.hid (fun (W : World) (hW : SlD W (some ⟨g, o, none⟩) n c l) (hp : Places W) => IH.out (n - k) (by omega) (i - k) (some ⟨g, o + k * 4, none⟩) (c - k) (l.drop k) W (by omega) hp (hW.drop k (by omega)))
          have i2 := Lib.hid (fun (W : World) (hW : SlD W (some ⟨g, o, none⟩) n c l) (hp : Places W) => root_c (N + 1) k (by omega) hN (some ⟨g, o, none⟩) c (l.take k) W hp (hW.take k c (by omega) (by omega) hW.2.1))
          have hpl := Lib.hid (wayE_len20 (l.drop k) (i - k) (by have := HLn.out; simp; omega))
          generalize rootE noneE (l.take k) = r at *
          have t2 : decide ((i : Int) < (k : Int)) = false := by simpa using hik
          have t3 : decide (i < k) = false := by simpa using hik
          have e1 : IntKind.i64.wrap ((i : Int) - (k : Int)) = ((i - k : Nat) : Int) := by rw [IntKind.wrap_i64]; omega
          clear IH HL HR
          go_enter Tryd.func67, Tryd.ntmps67
          go_wp2_with fail
          refine (hhalf.out _).mono ?_
          rintro e w2 ⟨rfl, rfl⟩
          clear hhalf
          go_upto_region 6 with (fail)
          refine wp_region_anyC 13 (fun W => SlD W (some ⟨g, o, none⟩) n c l ∧ Grow w W ∧ Places W) (by kernel_rfl) (by kernel_rfl) ⟨HS.out.grow (Grow.refl _).drew, (Grow.refl _).drew, HP.out.grow (Grow.refl _).drew⟩ ?_
          have hS := Stab.true_
          (refine anyC_val (i := 0) (some 26) rfl rfl (by kernel_rfl) (fun _ _ _ _ h => h) (by assumption) rfl ?_; apply Exists.intro; refine ⟨fun W hW => ?_, ?_⟩)
          · go_simp; try with_reducible rfl
          simp only [Act.put, List.setIfInBounds_toArray, List.set_cons_zero, List.set_cons_succ]
          (refine anyC_val (i := 1) (some 27) rfl rfl (by kernel_rfl) (fun _ _ _ _ h => h) (by assumption) rfl ?_; apply Exists.intro; refine ⟨fun W hW => ?_, ?_⟩)
          · go_simp; try with_reducible rfl
          simp only [Act.put, List.setIfInBounds_toArray, List.set_cons_zero, List.set_cons_succ]
          (refine anyC_val (i := 2) (some 28) rfl rfl (by kernel_rfl) (fun _ _ _ _ h => h) (by assumption) rfl ?_; apply Exists.intro; refine ⟨fun W hW => ?_, ?_⟩)
          · go_simp; try with_reducible rfl
          simp only [Act.put, List.setIfInBounds_toArray, List.set_cons_zero, List.set_cons_succ]
          (refine anyC_val (i := 3) (some 29) rfl rfl (by kernel_rfl) (fun _ _ _ _ h => h) (by assumption) rfl ?_; apply Exists.intro; refine ⟨fun W hW => ?_, ?_⟩)
          · go_simp; try with_reducible rfl
          simp only [Act.put, List.setIfInBounds_toArray, List.set_cons_zero, List.set_cons_succ]
          (refine anyC_val (i := 4) (some 30) rfl rfl (by kernel_rfl) (fun _ _ _ _ h => h) (by assumption) rfl ?_; apply Exists.intro; refine ⟨fun W hW => ?_, ?_⟩)
          · go_simp; try with_reducible rfl
          simp only [Act.put, List.setIfInBounds_toArray, List.set_cons_zero, List.set_cons_succ]
          (refine anyC_val (i := 5) (some 31) rfl rfl (by kernel_rfl) (fun _ _ _ _ h => h) (by assumption) rfl ?_; apply Exists.intro; refine ⟨fun W hW => ?_, ?_⟩)
          · go_simp; try with_reducible rfl
          simp only [Act.put, List.setIfInBounds_toArray, List.set_cons_zero, List.set_cons_succ]
          (refine anyC_val (i := 7) (some 33) rfl rfl (by kernel_rfl) (fun _ _ _ _ h => h) (by assumption) rfl ?_; apply Exists.intro; refine ⟨fun W hW => ?_, ?_⟩)
          · go_simp; try with_reducible rfl
          simp only [Act.put, List.setIfInBounds_toArray, List.set_cons_zero, List.set_cons_succ]
          (refine anyC_val (i := 8) (some 34) rfl rfl (by kernel_rfl) (fun _ _ _ _ h => h) (by assumption) rfl ?_; apply Exists.intro; refine ⟨fun W hW => ?_, ?_⟩)
          · go_simp; try with_reducible rfl
          simp only [Act.put, List.setIfInBounds_toArray, List.set_cons_zero, List.set_cons_succ]
          (refine anyC_val (i := 9) (some 35) rfl rfl (by kernel_rfl) (fun _ _ _ _ h => h) (by assumption) rfl ?_; apply Exists.intro; refine ⟨fun W hW => ?_, ?_⟩)
          · go_simp; try with_reducible rfl
          simp only [Act.put, List.setIfInBounds_toArray, List.set_cons_zero, List.set_cons_succ]
          refine anyC_one (i := 6) (by kernel_rfl) (fun W hW _ => ?_)
          refine wpOp_call (some 32) rfl rfl rfl (by go_simp) ((i1.out _ hW.1 hW.2.2).mono ?_)
          rintro e w2 ⟨v, rfl, ho2, hg2⟩
          have ho3 := ownsRow_base ho2 hW.2.1.size
          have hml := hpl.out
          generalize hp : wayE noneE (l.drop k) (i - k) = p at *
          have Hp := Lib.hid hp
          clear hp
          generalize hm : p.length = m at *
          have Hm := Lib.hid hm
          clear hm
          refine ⟨_, rfl, ⟨hW.1.grow hg2, hW.2.1.tr hg2, hW.2.2.grow hg2⟩, (fun x => x.ownsRow w.heap.size 27 4 v m (dcells p)), (fun _ _ h g => ownsRow_grow h g), ho3, ?_⟩
          clear ho2 ho3 hg2 hW
          have hS : Stab (fun x => x.ownsRow w.heap.size 27 4 v m (dcells p)) := fun _ _ h g => ownsRow_grow h g
          simp only [Act.put, List.setIfInBounds_toArray, List.set_cons_zero, List.set_cons_succ]
          (refine anyC_call (i := 10) (some 36) (.agg (us r.1)) rfl rfl (by kernel_rfl) (fun _ _ _ h => h) (by assumption) rfl (fun W hW => ?_) ?_)
          · go_simp; exact (i2.out _ hW.1 hW.2.2).mono (fun e w' h => ⟨h.1, ⟨hW.1.grow h.2, hW.2.1.tr h.2, hW.2.2.grow h.2⟩, h.2⟩)
          simp only [Act.put, List.setIfInBounds_toArray, List.set_cons_zero, List.set_cons_succ]
          refine anyC_one (i := 11) (by kernel_rfl) (fun W hW hR => ?_)
          refine wpOp_of_list rfl (fun Q' hK => ?_)
          refine wpList_buildSlice_D rfl 38 27 (.tmp 36) rfl #[.int .u32 0, .int .u32 0, .int .u32 0, .int .u32 0] 16 rfl Tryd.underlying38 info_D r rfl ?_
          have ha : Grow W _ := Below.alloc (Grow.refl W) (Nat.le_refl _) (Obj.cells (r.1.map u).toArray 27)
          obtain ⟨b0, hb0⟩ : ∃ b, b = W.heap.size := ⟨_, rfl⟩
          have hbk : Blk (W.alloc (Obj.cells (r.1.map u).toArray 27)) b0 27 (r.1.map u).toArray := hb0 ▸ Blk.new _ _ _
          refine hK _ _ ⟨⟨hW.1.grow ha, hW.2.1.tr ha, hW.2.2.grow ha⟩, (fun x => x.ownsRow w.heap.size 27 4 v m (dcells p) ∧ Blk x b0 27 (r.1.map u).toArray), (fun _ _ h g => ⟨ownsRow_grow h.1 g, h.2.grow g⟩), ⟨ownsRow_grow hR ha, hbk⟩, ?_⟩
          rw [← hb0]
          clear hb0 hW hR ha hbk hK
          simp only [Act.put, List.setIfInBounds_toArray]
          refine anyC_one (i := 12) (by kernel_rfl) (fun W2 hW2 hR2 => ?_)
          refine wpOp_of_list rfl (fun Q' hK => ?_)
          refine wpList_append_blk rfl (.tmp 32) (.tmp 37) 38 rfl w.heap.size 27 (.agg #[.int .u32 0, .int .u32 0, .int .u32 0, .int .u32 0]) 4 16 Tryd.underlying38 info_D rfl (by omega) _ m _ rfl hR2.1 b0 1 1 (r.1.map u) rfl hR2.2 (by simp [r.2]) (us_news r) (by simp only [maxLen]; omega) (by omega) hW2.2.1.size ?_
          intro v' w4 hown' hbel' _
          have hgr4 : Grow w w4 := Below.trans hW2.2.1 hbel'
          refine hK _ _ ⟨⟨HS.out.grow hgr4, hgr4, HP.out.grow hgr4⟩, (fun x => x.ownsRow w.heap.size 27 4 v' (m + 1) (dcells p ++ r.1.map u)), (fun _ _ h g => ownsRow_grow h g), hown', ?_⟩
          clear hbel' hown' hR2 hW2 hK hgr4
          simp only [Act.put]
          refine anyC_tail_lit (by kernel_rfl) (fun w5 h5 hR => ?_)
          simp only [List.drop_succ_cons, List.drop_zero]
          go_wp2_with fail
          go_ret
          refine ⟨_, rfl, ?_, h5.2.1⟩
          rw [hdef.out, List.length_append, Hm.out, dcells_append, dcells_one]
          exact hR
set_option maxRecDepth 100000 in
set_option maxHeartbeats 4000000 in
theorem rway_c (N : Nat) : ∀ (n : Nat), n ≤ N → N ≤ 1000000 → ∀ (i : Nat) (A : Option Addr) (c : Nat) (l : List D) (w : World), i < n → Places w → SlD w A n c l →
    Calls Tryd.prog 79 #[.slice A n c, .int .i64 (i : Int)] w fun e w' => ∃ v, e = .returned v ∧ w'.ownsRow w.heap.size 27 4 v (wayE noneE l i).length (dcells (wayE noneE l i)) ∧ Grow w w' := by
  induction N with
  | zero => intro n hn _ i A c l w hi; omega
  | succ N ih =>
    intro n hn hN i A c l w hi hP hs
    have IH := Lib.hid (ih · · (by omega))
    clear ih
    by_cases hle : n ≤ N
    · exact IH.out n hle i A c l w hi hP hs
    · have hnN : n = N + 1 := by omega
      clear hn hle
      have HS := Lib.hid hs
      have HP := Lib.hid hP
      have hln := hs.2.2.1
      clear hs hP
      by_cases h1 : n = 1
      · subst h1
        rw [wayE_one noneE i (by omega)]
        have t1 : (((1 : Nat) : Int) == 1) = true := by decide
        clear hln hnN
        go_enter Tryd.func79, Tryd.ntmps79
        go_wp2_with fail
        go_ret
        exact ⟨_, rfl, World.ownsRow_nil _ _ _ _, Grow.refl _⟩
      · have h2 : 2 ≤ n := by omega
        have hk1 := halfE_lt h2
        have hk0 := halfE_pos n
        have hhalf := Lib.hid (fun W => rhalf_c n W h2 (by omega))
        have HL := Lib.hid (fun hi => wayE_left noneE (l := l) (i := i) (by omega) hi)
        have HR := Lib.hid (fun hi => wayE_right noneE (l := l) (i := i) (by omega) hi)
        rw [hln] at HL HR
        have hcc := HS.out.1
        have t1 : ((n : Int) == 1) = false := by simp; omega
        generalize hkk : halfE n = k at *
        clear hkk
        have HLn := Lib.hid hln
        clear hln
        obtain ⟨g, o, rfl, -, -⟩ := HS.out.2.2.2 (by omega)
        have hkc : k ≤ c := by omega
        have hkn : k ≤ n := by omega
        have hne : ¬ c = k := by omega
        have hnb : n ≤ N + 1 := by omega
        clear h1 hnN
        by_cases hik : i < k
        · have hdef := Lib.hid (HL.out hik)
          have i1 := Lib.hid (fun (W : World) (hW : SlD W (some ⟨g, o, none⟩) n c l) (hp : Places W) => IH.out k (by omega) i (some ⟨g, o, none⟩) c (l.take k) W hik hp (hW.take k c (by omega) (by omega) hW.2.1))
          have i2 := Lib.hid (fun (W : World) (hW : SlD W (some ⟨g, o, none⟩) n c l) (hp : Places W) => rroot_c (N + 1) (n - k) (by omega) hN (some ⟨g, o + k * 4, none⟩) (c - k) (l.drop k) W hp (hW.drop k (by omega)))
          have hpl := Lib.hid (wayE_len20 (l.take k) i (by have := HLn.out; simp; omega))
          generalize rootE noneE (l.drop k) = r at *
          have t2 : decide ((i : Int) < (k : Int)) = true := by simpa using hik
          have t3 : decide (i < k) = true := by simpa using hik
          clear IH HL HR
          go_enter Tryd.func79, Tryd.ntmps79
          go_wp2_with fail
          refine (hhalf.out _).mono ?_
          rintro e w2 ⟨rfl, rfl⟩
          clear hhalf
          go_upto_region 5 with (fail)
          refine wp_region_anyC 11 (fun W => SlD W (some ⟨g, o, none⟩) n c l ∧ Grow w W ∧ Places W) (by kernel_rfl) (by kernel_rfl) ⟨HS.out.grow (Grow.refl _).drew, (Grow.refl _).drew, HP.out.grow (Grow.refl _).drew⟩ ?_
          have hS := Stab.true_
          (refine anyC_val (i := 0) (some 15) rfl rfl (by kernel_rfl) (fun _ _ _ _ h => h) (by assumption) rfl ?_; apply Exists.intro; refine ⟨fun W hW => ?_, ?_⟩)
          · go_simp; try with_reducible rfl
          simp only [Act.put, List.setIfInBounds_toArray, List.set_cons_zero, List.set_cons_succ]
          (refine anyC_val (i := 1) (some 16) rfl rfl (by kernel_rfl) (fun _ _ _ _ h => h) (by assumption) rfl ?_; apply Exists.intro; refine ⟨fun W hW => ?_, ?_⟩)
          · go_simp; try with_reducible rfl
          simp only [Act.put, List.setIfInBounds_toArray, List.set_cons_zero, List.set_cons_succ]
          (refine anyC_val (i := 2) (some 17) rfl rfl (by kernel_rfl) (fun _ _ _ _ h => h) (by assumption) rfl ?_; apply Exists.intro; refine ⟨fun W hW => ?_, ?_⟩)
          · go_simp; try with_reducible rfl
          simp only [Act.put, List.setIfInBounds_toArray, List.set_cons_zero, List.set_cons_succ]
          (refine anyC_val (i := 3) (some 18) rfl rfl (by kernel_rfl) (fun _ _ _ _ h => h) (by assumption) rfl ?_; apply Exists.intro; refine ⟨fun W hW => ?_, ?_⟩)
          · go_simp; try with_reducible rfl
          simp only [Act.put, List.setIfInBounds_toArray, List.set_cons_zero, List.set_cons_succ]
          (refine anyC_val (i := 5) (some 20) rfl rfl (by kernel_rfl) (fun _ _ _ _ h => h) (by assumption) rfl ?_; apply Exists.intro; refine ⟨fun W hW => ?_, ?_⟩)
          · go_simp; try with_reducible rfl
          simp only [Act.put, List.setIfInBounds_toArray, List.set_cons_zero, List.set_cons_succ]
          (refine anyC_val (i := 6) (some 21) rfl rfl (by kernel_rfl) (fun _ _ _ _ h => h) (by assumption) rfl ?_; apply Exists.intro; refine ⟨fun W hW => ?_, ?_⟩)
          · go_simp; try with_reducible rfl
          simp only [Act.put, List.setIfInBounds_toArray, List.set_cons_zero, List.set_cons_succ]
          (refine anyC_val (i := 7) (some 22) rfl rfl (by kernel_rfl) (fun _ _ _ _ h => h) (by assumption) rfl ?_; apply Exists.intro; refine ⟨fun W hW => ?_, ?_⟩)
          · go_simp; try with_reducible rfl
          simp only [Act.put, List.setIfInBounds_toArray, List.set_cons_zero, List.set_cons_succ]
          refine anyC_one (i := 4) (by kernel_rfl) (fun W hW _ => ?_)
          refine wpOp_call (some 19) rfl rfl rfl (by go_simp) ((i1.out _ hW.1 hW.2.2).mono ?_)
          rintro e w2 ⟨v, rfl, ho2, hg2⟩
          have ho3 := ownsRow_base ho2 hW.2.1.size
          have hml := hpl.out
          generalize hp : wayE noneE (l.take k) i = p at *
          have Hp := Lib.hid hp
          clear hp
          generalize hm : p.length = m at *
          have Hm := Lib.hid hm
          clear hm
          refine ⟨_, rfl, ⟨hW.1.grow hg2, hW.2.1.tr hg2, hW.2.2.grow hg2⟩, (fun x => x.ownsRow w.heap.size 27 4 v m (dcells p)), (fun _ _ h g => ownsRow_grow h g), ho3, ?_⟩
          clear ho2 ho3 hg2 hW
          have hS : Stab (fun x => x.ownsRow w.heap.size 27 4 v m (dcells p)) := fun _ _ h g => ownsRow_grow h g
          simp only [Act.put, List.setIfInBounds_toArray, List.set_cons_zero, List.set_cons_succ]
          (refine anyC_call (i := 8) (some 23) (.agg (us r.1)) rfl rfl (by kernel_rfl) (fun _ _ _ h => h) (by assumption) rfl (fun W hW => ?_) ?_)
          · go_simp; exact (i2.out _ hW.1 hW.2.2).mono (fun e w' h => ⟨h.1, ⟨hW.1.grow h.2, hW.2.1.tr h.2, hW.2.2.grow h.2⟩, h.2⟩)
          simp only [Act.put, List.setIfInBounds_toArray, List.set_cons_zero, List.set_cons_succ]
          refine anyC_one (i := 9) (by kernel_rfl) (fun W hW hR => ?_)
          refine wpOp_of_list rfl (fun Q' hK => ?_)
          refine wpList_buildSlice_D rfl 38 27 (.tmp 23) rfl #[.int .u32 0, .int .u32 0, .int .u32 0, .int .u32 0] 16 rfl Tryd.underlying38 info_D r rfl ?_
          have ha : Grow W _ := Below.alloc (Grow.refl W) (Nat.le_refl _) (Obj.cells (r.1.map u).toArray 27)
          obtain ⟨b0, hb0⟩ : ∃ b, b = W.heap.size := ⟨_, rfl⟩
          have hbk : Blk (W.alloc (Obj.cells (r.1.map u).toArray 27)) b0 27 (r.1.map u).toArray := hb0 ▸ Blk.new _ _ _
          refine hK _ _ ⟨⟨hW.1.grow ha, hW.2.1.tr ha, hW.2.2.grow ha⟩, (fun x => x.ownsRow w.heap.size 27 4 v m (dcells p) ∧ Blk x b0 27 (r.1.map u).toArray), (fun _ _ h g => ⟨ownsRow_grow h.1 g, h.2.grow g⟩), ⟨ownsRow_grow hR ha, hbk⟩, ?_⟩
          rw [← hb0]
          clear hb0 hW hR ha hbk hK
          simp only [Act.put, List.setIfInBounds_toArray]
          refine anyC_one (i := 10) (by kernel_rfl) (fun W2 hW2 hR2 => ?_)
          refine wpOp_of_list rfl (fun Q' hK => ?_)
          refine wpList_append_blk rfl (.tmp 19) (.tmp 24) 38 rfl w.heap.size 27 (.agg #[.int .u32 0, .int .u32 0, .int .u32 0, .int .u32 0]) 4 16 Tryd.underlying38 info_D rfl (by omega) _ m _ rfl hR2.1 b0 1 1 (r.1.map u) rfl hR2.2 (by simp [r.2]) (us_news r) (by simp only [maxLen]; omega) (by omega) hW2.2.1.size ?_
          intro v' w4 hown' hbel' _
          have hgr4 : Grow w w4 := Below.trans hW2.2.1 hbel'
          refine hK _ _ ⟨⟨HS.out.grow hgr4, hgr4, HP.out.grow hgr4⟩, (fun x => x.ownsRow w.heap.size 27 4 v' (m + 1) (dcells p ++ r.1.map u)), (fun _ _ h g => ownsRow_grow h g), hown', ?_⟩
          clear hbel' hown' hR2 hW2 hK hgr4
          simp only [Act.put]
          refine anyC_tail_lit (by kernel_rfl) (fun w5 h5 hR => ?_)
          simp only [List.drop_succ_cons, List.drop_zero]
          go_wp2_with fail
          go_ret
          refine ⟨_, rfl, ?_, h5.2.1⟩
          rw [hdef.out, List.length_append, Hm.out, dcells_append, dcells_one]
          exact hR
        · have hdef := Lib.hid (HR.out hik)
          have i1 := Lib.hid (fun (W : World) (hW : SlD W (some ⟨g, o, none⟩) n c l) (hp : Places W) => IH.out (n - k) (by omega) (i - k) (some ⟨g, o + k * 4, none⟩) (c - k) (l.drop k) W (by omega) hp (hW.drop k (by omega)))
          have i2 := Lib.hid (fun (W : World) (hW : SlD W (some ⟨g, o, none⟩) n c l) (hp : Places W) => rroot_c (N + 1) k (by omega) hN (some ⟨g, o, none⟩) c (l.take k) W hp (hW.take k c (by omega) (by omega) hW.2.1))
          have hpl := Lib.hid (wayE_len20 (l.drop k) (i - k) (by have := HLn.out; simp; omega))
          generalize rootE noneE (l.take k) = r at *
          have t2 : decide ((i : Int) < (k : Int)) = false := by simpa using hik
          have t3 : decide (i < k) = false := by simpa using hik
          have e1 : IntKind.i64.wrap ((i : Int) - (k : Int)) = ((i - k : Nat) : Int) := by rw [IntKind.wrap_i64]; omega
          clear IH HL HR
          go_enter Tryd.func79, Tryd.ntmps79
          go_wp2_with fail
          refine (hhalf.out _).mono ?_
          rintro e w2 ⟨rfl, rfl⟩
          clear hhalf
          go_upto_region 6 with (fail)
          refine wp_region_anyC 13 (fun W => SlD W (some ⟨g, o, none⟩) n c l ∧ Grow w W ∧ Places W) (by kernel_rfl) (by kernel_rfl) ⟨HS.out.grow (Grow.refl _).drew, (Grow.refl _).drew, HP.out.grow (Grow.refl _).drew⟩ ?_
          have hS := Stab.true_
          (refine anyC_val (i := 0) (some 26) rfl rfl (by kernel_rfl) (fun _ _ _ _ h => h) (by assumption) rfl ?_; apply Exists.intro; refine ⟨fun W hW => ?_, ?_⟩)
          · go_simp; try with_reducible rfl
          simp only [Act.put, List.setIfInBounds_toArray, List.set_cons_zero, List.set_cons_succ]
          (refine anyC_val (i := 1) (some 27) rfl rfl (by kernel_rfl) (fun _ _ _ _ h => h) (by assumption) rfl ?_; apply Exists.intro; refine ⟨fun W hW => ?_, ?_⟩)
          · go_simp; try with_reducible rfl
          simp only [Act.put, List.setIfInBounds_toArray, List.set_cons_zero, List.set_cons_succ]
          (refine anyC_val (i := 2) (some 28) rfl rfl (by kernel_rfl) (fun _ _ _ _ h => h) (by assumption) rfl ?_; apply Exists.intro; refine ⟨fun W hW => ?_, ?_⟩)
          · go_simp; try with_reducible rfl
          simp only [Act.put, List.setIfInBounds_toArray, List.set_cons_zero, List.set_cons_succ]
          (refine anyC_val (i := 3) (some 29) rfl rfl (by kernel_rfl) (fun _ _ _ _ h => h) (by assumption) rfl ?_; apply Exists.intro; refine ⟨fun W hW => ?_, ?_⟩)
          · go_simp; try with_reducible rfl
          simp only [Act.put, List.setIfInBounds_toArray, List.set_cons_zero, List.set_cons_succ]
          (refine anyC_val (i := 4) (some 30) rfl rfl (by kernel_rfl) (fun _ _ _ _ h => h) (by assumption) rfl ?_; apply Exists.intro; refine ⟨fun W hW => ?_, ?_⟩)
          · go_simp; try with_reducible rfl
          simp only [Act.put, List.setIfInBounds_toArray, List.set_cons_zero, List.set_cons_succ]
          (refine anyC_val (i := 5) (some 31) rfl rfl (by kernel_rfl) (fun _ _ _ _ h => h) (by assumption) rfl ?_; apply Exists.intro; refine ⟨fun W hW => ?_, ?_⟩)
          · go_simp; try with_reducible rfl
          simp only [Act.put, List.setIfInBounds_toArray, List.set_cons_zero, List.set_cons_succ]
          (refine anyC_val (i := 7) (some 33) rfl rfl (by kernel_rfl) (fun _ _ _ _ h => h) (by assumption) rfl ?_; apply Exists.intro; refine ⟨fun W hW => ?_, ?_⟩)
          · go_simp; try with_reducible rfl
          simp only [Act.put, List.setIfInBounds_toArray, List.set_cons_zero, List.set_cons_succ]
          (refine anyC_val (i := 8) (some 34) rfl rfl (by kernel_rfl) (fun _ _ _ _ h => h) (by assumption) rfl ?_; apply Exists.intro; refine ⟨fun W hW => ?_, ?_⟩)
          · go_simp; try with_reducible rfl
          simp only [Act.put, List.setIfInBounds_toArray, List.set_cons_zero, List.set_cons_succ]
          (refine anyC_val (i := 9) (some 35) rfl rfl (by kernel_rfl) (fun _ _ _ _ h => h) (by assumption) rfl ?_; apply Exists.intro; refine ⟨fun W hW => ?_, ?_⟩)
          · go_simp; try with_reducible rfl
          simp only [Act.put, List.setIfInBounds_toArray, List.set_cons_zero, List.set_cons_succ]
          refine anyC_one (i := 6) (by kernel_rfl) (fun W hW _ => ?_)
          refine wpOp_call (some 32) rfl rfl rfl (by go_simp) ((i1.out _ hW.1 hW.2.2).mono ?_)
          rintro e w2 ⟨v, rfl, ho2, hg2⟩
          have ho3 := ownsRow_base ho2 hW.2.1.size
          have hml := hpl.out
          generalize hp : wayE noneE (l.drop k) (i - k) = p at *
          have Hp := Lib.hid hp
          clear hp
          generalize hm : p.length = m at *
          have Hm := Lib.hid hm
          clear hm
          refine ⟨_, rfl, ⟨hW.1.grow hg2, hW.2.1.tr hg2, hW.2.2.grow hg2⟩, (fun x => x.ownsRow w.heap.size 27 4 v m (dcells p)), (fun _ _ h g => ownsRow_grow h g), ho3, ?_⟩
          clear ho2 ho3 hg2 hW
          have hS : Stab (fun x => x.ownsRow w.heap.size 27 4 v m (dcells p)) := fun _ _ h g => ownsRow_grow h g
          simp only [Act.put, List.setIfInBounds_toArray, List.set_cons_zero, List.set_cons_succ]
          (refine anyC_call (i := 10) (some 36) (.agg (us r.1)) rfl rfl (by kernel_rfl) (fun _ _ _ h => h) (by assumption) rfl (fun W hW => ?_) ?_)
          · go_simp; exact (i2.out _ hW.1 hW.2.2).mono (fun e w' h => ⟨h.1, ⟨hW.1.grow h.2, hW.2.1.tr h.2, hW.2.2.grow h.2⟩, h.2⟩)
          simp only [Act.put, List.setIfInBounds_toArray, List.set_cons_zero, List.set_cons_succ]
          refine anyC_one (i := 11) (by kernel_rfl) (fun W hW hR => ?_)
          refine wpOp_of_list rfl (fun Q' hK => ?_)
          refine wpList_buildSlice_D rfl 38 27 (.tmp 36) rfl #[.int .u32 0, .int .u32 0, .int .u32 0, .int .u32 0] 16 rfl Tryd.underlying38 info_D r rfl ?_
          have ha : Grow W _ := Below.alloc (Grow.refl W) (Nat.le_refl _) (Obj.cells (r.1.map u).toArray 27)
          obtain ⟨b0, hb0⟩ : ∃ b, b = W.heap.size := ⟨_, rfl⟩
          have hbk : Blk (W.alloc (Obj.cells (r.1.map u).toArray 27)) b0 27 (r.1.map u).toArray := hb0 ▸ Blk.new _ _ _
          refine hK _ _ ⟨⟨hW.1.grow ha, hW.2.1.tr ha, hW.2.2.grow ha⟩, (fun x => x.ownsRow w.heap.size 27 4 v m (dcells p) ∧ Blk x b0 27 (r.1.map u).toArray), (fun _ _ h g => ⟨ownsRow_grow h.1 g, h.2.grow g⟩), ⟨ownsRow_grow hR ha, hbk⟩, ?_⟩
          rw [← hb0]
          clear hb0 hW hR ha hbk hK
          simp only [Act.put, List.setIfInBounds_toArray]
          refine anyC_one (i := 12) (by kernel_rfl) (fun W2 hW2 hR2 => ?_)
          refine wpOp_of_list rfl (fun Q' hK => ?_)
          refine wpList_append_blk rfl (.tmp 32) (.tmp 37) 38 rfl w.heap.size 27 (.agg #[.int .u32 0, .int .u32 0, .int .u32 0, .int .u32 0]) 4 16 Tryd.underlying38 info_D rfl (by omega) _ m _ rfl hR2.1 b0 1 1 (r.1.map u) rfl hR2.2 (by simp [r.2]) (us_news r) (by simp only [maxLen]; omega) (by omega) hW2.2.1.size ?_
          intro v' w4 hown' hbel' _
          have hgr4 : Grow w w4 := Below.trans hW2.2.1 hbel'
          refine hK _ _ ⟨⟨HS.out.grow hgr4, hgr4, HP.out.grow hgr4⟩, (fun x => x.ownsRow w.heap.size 27 4 v' (m + 1) (dcells p ++ r.1.map u)), (fun _ _ h g => ownsRow_grow h g), hown', ?_⟩
          clear hbel' hown' hR2 hW2 hK hgr4
          simp only [Act.put]
          refine anyC_tail_lit (by kernel_rfl) (fun w5 h5 hR => ?_)
          simp only [List.drop_succ_cons, List.drop_zero]
          go_wp2_with fail
          go_ret
          refine ⟨_, rfl, ?_, h5.2.1⟩
          rw [hdef.out, List.length_append, Hm.out, dcells_append, dcells_one]
          exact hR
end Go.Proofs.YtamllmoakgnjoaaDoor
