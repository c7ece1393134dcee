/- onetime.Reach and its closure, onetime.Check: what they return is what the plain functions give; the heap only grows. -/
import Derived.Test.YtjokaennipmmaaaDoorGen
import Derived.Test.YtjokaennipmmaaaDoorSign
namespace Go.Proofs.YtjokaennipmmaaaDoor
open Go.RowKit
/-- What Reach's closure looks at. -/
structure ReachAt (w : World) (bw bs bt b : Nat) (A : Option Addr) (c : Nat) (vs : Value) (msg : D) (s : List D) : Prop where
  pla : Places w
  fw : Blk w bw 70 #[walkFn b]
  one : Blk w b 30 (us oneE.1)
  fs : Blk w bs 39 #[.slice A 35 c]
  sl : SlD w A 35 c s
  ft : Blk w bt 36 #[vs]
  st : w.ownsRow 0 3 1 vs 35 (ints (stepsE msg))
theorem ReachAt.grow {w w' : World} {bw bs bt b : Nat} {A : Option Addr} {c : Nat} {vs : Value} {msg : D} {s : List D} (h : ReachAt w bw bs bt b A c vs msg s) (hg : Grow w w') : ReachAt w' bw bs bt b A c vs msg s :=
  ⟨h.pla.grow hg, h.fw.grow hg, h.one.grow hg, h.fs.grow hg, h.sl.grow hg, h.ft.grow hg, ownsRow_grow h.st hg⟩
set_option maxHeartbeats 1000000 in
theorem reach1_c (i : Nat) (bw bs bt b : Nat) (A : Option Addr) (c : Nat) (vs : Value) (msg : D) (s : List D) (w : World) (hi : i < 35) (h : ReachAt w bw bs bt b A c vs msg s) :
    Calls Tryd.prog 38 #[.int .i64 (i : Int), .pointer (some ⟨bw, 0, none⟩), .pointer (some ⟨bs, 0, none⟩), .pointer (some ⟨bt, 0, none⟩)] w fun e w' => e = .returned (.agg (us (walkE (s.getD i D.zero) (15 - (stepsE msg).getD i 0)).1)) ∧ Grow w w' := by
  obtain ⟨g, o, rfl, hgl, hgc⟩ := h.sl.2.2.2 (by omega)
  obtain ⟨gt, ct, rfl, _, hct, htl, hcell⟩ := own_ints h.st (by omega)
  have hcs := Lib.hid h.sl.1
  have hcell0 := fun W (hW : Grow w W) => hcell W hW i hi
  have hgc0 : ∀ W, Grow w W → ∀ k, k < 4 → W.cell? ⟨g, o + i * 4 + k, none⟩ = some (u ((s.getD i D.zero).1.getD k 0)) := fun W hW k hk => (hW.cell (p := ⟨g, o + i * 4 + k, none⟩) hgl).trans (hgc i k hi hk)
  have H := Lib.hid h
  clear h hcell hgc hgl
  have hd := stepsE_getD_lt msg i
  generalize hdd : (stepsE msg).getD i 0 = d at *
  generalize hxx : s.getD i D.zero = x at *
  have HT := Lib.hid hcell0
  have HC := Lib.hid hgc0
  clear hdd hxx hcell0 hgc0
  go_enter Tryd.func38, Tryd.ntmps38
  go_upto_region 1 with (fail)
  refine wp_gen (fun W => Blk W w.heap.size 30 (us D.zero.1) ∧ Grow w W) ⟨Blk.new _ _ _, (Grow.refl _).alloc (Nat.le_refl _) _⟩ ?_
  intro w1 h1
  refine wp_region_tail 11 (fun W => Blk W w.heap.size 30 (us D.zero.1) ∧ Grow w W) (by kernel_rfl) (by kernel_rfl) ⟨h1.1.drew, h1.2.drew⟩ ?_
  have H1 := Lib.hid h1
  clear h1
  simp only [List.take_succ_cons, List.take_zero, List.drop_succ_cons, List.drop_zero]
  have b1 : (0 : Int) ≤ i := by omega
  have b2 : (i : Int) < 35 := by omega
  (refine quiet_ex rfl ?_; apply Exists.intro; refine ⟨fun W hW => ?_, ?_⟩)
  · have c := (H.out.fw.grow hW.2).cell 0; simp only [List.getElem?_toArray, List.getElem?_cons_zero] at c; go_simp; try with_reducible rfl
  simp only [Act.put, List.setIfInBounds_toArray, List.set_cons_zero, List.set_cons_succ]
  (refine quiet_ex rfl ?_; apply Exists.intro; refine ⟨fun W hW => ?_, ?_⟩)
  · have c := (H.out.fs.grow hW.2).cell 0; simp only [List.getElem?_toArray, List.getElem?_cons_zero] at c; go_simp; try with_reducible rfl
  simp only [Act.put, List.setIfInBounds_toArray, List.set_cons_zero, List.set_cons_succ]
  (refine quiet_ex rfl ?_; apply Exists.intro; refine ⟨fun W hW => ?_, ?_⟩)
  · go_simp; try with_reducible rfl
  simp only [Act.put, List.setIfInBounds_toArray, List.set_cons_zero, List.set_cons_succ]
  (refine quiet_ex rfl ?_; apply Exists.intro; refine ⟨fun W hW => ?_, ?_⟩)
  · go_simp; try with_reducible rfl
  simp only [Act.put, List.setIfInBounds_toArray, List.set_cons_zero, List.set_cons_succ]
  refine quiet_load_D rfl 30 (.tmp 9) rfl g (o + i * 4) rfl x (fun W hW => HC.out W hW.2) _ Tryd.underlying30 hi_D ?_
  simp only [Act.put, List.setIfInBounds_toArray, List.set_cons_zero, List.set_cons_succ]
  (refine quiet_ex rfl ?_; apply Exists.intro; refine ⟨fun W hW => ?_, ?_⟩)
  · have c := (H.out.ft.grow hW.2).cell 0; simp only [List.getElem?_toArray, List.getElem?_cons_zero] at c; go_simp; try with_reducible rfl
  simp only [Act.put, List.setIfInBounds_toArray, List.set_cons_zero, List.set_cons_succ]
  (refine quiet_ex rfl ?_; apply Exists.intro; refine ⟨fun W hW => ?_, ?_⟩)
  · go_simp; try with_reducible rfl
  simp only [Act.put, List.setIfInBounds_toArray, List.set_cons_zero, List.set_cons_succ]
  (refine quiet_ex rfl ?_; apply Exists.intro; refine ⟨fun W hW => ?_, ?_⟩)
  · go_simp; try with_reducible rfl
  simp only [Act.put, List.setIfInBounds_toArray, List.set_cons_zero, List.set_cons_succ]
  (refine quiet_ex rfl ?_; apply Exists.intro; refine ⟨fun W hW => ?_, ?_⟩)
  · have c := HT.out W hW.2; go_simp; try with_reducible rfl
  simp only [Act.put, List.setIfInBounds_toArray, List.set_cons_zero, List.set_cons_succ]
  have b3 : IntKind.i64.wrap ((15 : Int) - (d : Int)) = ((15 - d : Nat) : Int) := by rw [IntKind.wrap_i64]; omega
  (refine quiet_ex rfl ?_; apply Exists.intro; refine ⟨fun W hW => ?_, ?_⟩)
  · go_simp; try with_reducible rfl
  simp only [Act.put, List.setIfInBounds_toArray, List.set_cons_zero, List.set_cons_succ]
  (refine quiet_at rfl ⟨.agg (us (walkE x (15 - d)).1), fun W hW => ?_, ?_⟩)
  · go_simp; exact (walk_c x (15 - d) b _ (H.out.pla.grow hW.2) (H.out.one.grow hW.2) (by omega)).mono (fun e w' h => ⟨h.1, hW.1.grow h.2, hW.2.tr h.2⟩)
  simp only [Act.put, List.setIfInBounds_toArray, List.set_cons_zero, List.set_cons_succ]
  refine wpQuiet_nil ?_
  intro w2 h2
  have hR := h2.1
  have s2 := (walkE x (15 - d)).sz
  have o2 := (walkE x (15 - d)).one
  have H2 := Lib.hid h2
  clear h2 b3
  generalize hz : walkE x (15 - d) = z at *
  have Hz := Lib.hid hz
  clear hz
  go_wp2_with (refine wpList_store_row rfl 30 (.tmp 5) (.tmp 16) rfl (w.heap.size) (us z.1) rfl rfl _ _ hR (by rw [s2]; kernel_rfl) (by rw [s2]; exact D.zero.sz) o2 ?_)
  refine bodyPost_ret (results_cell_row (p := 5) (ty := 30) rfl _ _ (w.heap.size) _ (us z.1) (0, 0) _ rfl (setRow_heap _ _ _ _ _ _ hR) Tryd.underlying30 rfl (by rw [s2]; kernel_rfl)) rfl ⟨by rw [Hz.out], ?_⟩
  exact Below.setRow H2.out.2 (Nat.le_refl _) _
theorem callFunc_reach1 : ∀ args W, (callFunc 38 args).run Tryd.prog W = .ok (.enter 38 args) W := fun _ _ => by go_simp
/-- What Reach answers. -/
def reachP (msg : D) (s : List D) : D × Bool := if s.length = 35 then (reachE msg s, true) else (D.zero, false)
set_option maxHeartbeats 1000000 in
set_option maxRecDepth 100000 in
theorem reach_c (msg : D) (A : Option Addr) (n c : Nat) (s : List D) (w : World) (hP : Places w) (hs : SlD w A n c s) :
    Calls Tryd.prog 27 #[.agg (us msg.1), .slice A n c] w fun e w' => e = .returned (.tuple #[.agg (us (reachP msg s).1.1), .bool (reachP msg s).2]) ∧ Grow w w' := by
  by_cases hn : n = 35
  · subst hn
    have hr : reachP msg s = (reachE msg s, true) := by unfold reachP; rw [if_pos hs.2.2.1]
    rw [hr]
    clear hr
    have HP := Lib.hid hP
    have HS := Lib.hid hs
    clear hP hs
    have h35 : (((35 : Nat) : Int) != 35) = false := by decide
    go_enter Tryd.func27, Tryd.ntmps27
    go_upto_region 1 with (fail)
    refine wp_gen (fun W => Blk W w.heap.size 30 (us msg.1) ∧ Blk W (w.heap.size + 1) 39 #[.slice A 35 c] ∧ Blk W (w.heap.size + 1 + 1) 30 (us D.zero.1) ∧ Grow w W) ?_ ?_
    · exact ⟨((Blk.new _ _ _).alloc _).alloc _, (Blk.new1 _ _ _ _).alloc _, Blk.new2 _ _ _ _ _, (((Below.refl w.heap.size w).alloc (Nat.le_refl _) _).alloc (by simp) _).alloc (by simp; omega) _⟩
    intro w1 h1
    have c1 := h1.2.1.cell 0
    simp only [List.getElem?_toArray, List.getElem?_cons_zero] at c1
    have H1 := Lib.hid h1
    clear h1
    go_wp2_with fail
    refine (along_c _).mono ?_
    rintro e w2 ⟨⟨v, rfl, b, rfl, hb⟩, hg⟩
    have Hb := Lib.hid hb
    have Hg := Lib.hid hg
    clear hb hg c1
    go_upto_region 4 with (fail)
    obtain ⟨bw, hbw⟩ : ∃ bw, bw = w2.heap.size := ⟨_, rfl⟩
    refine wp_gen (fun W => Blk W bw 70 #[walkFn b] ∧ Grow w2 W) (hbw ▸ ⟨Blk.new _ _ _, (Grow.refl _).alloc (Nat.le_refl _) _⟩) ?_
    intro w3 h3
    have H3 := Lib.hid h3
    clear h3
    rw [← hbw]
    clear hbw
    have hB3 := (H1.out.1.grow Hg.out).grow H3.out.2
    have sm := msg.sz
    go_wp2_with (refine wpList_load_row_g rfl 30 (.tmp 2) rfl (w.heap.size) rfl _ (us msg.1) (0, 0) _ hB3 Tryd.underlying30 rfl (by rw [sm]; kernel_rfl) ?_)
    refine (steps_c msg _).mono ?_
    rintro e w4 ⟨vs, rfl, hst, hg4⟩
    have HT := Lib.hid hst
    have G4 := Lib.hid hg4
    clear hst hg4 hB3 sm
    obtain ⟨gs, cs, hvs, -, -, -, -⟩ := own_ints HT.out (by omega)
    subst hvs
    go_upto_region 5 with (fail)
    obtain ⟨bt, hbt⟩ : ∃ bt, bt = w4.heap.size := ⟨_, rfl⟩
    refine wp_gen (fun W => Blk W bt 36 #[.slice (some ⟨gs, 0, none⟩) 35 cs] ∧ Grow w4 W) (hbt ▸ ⟨Blk.new _ _ _, (Grow.refl _).alloc (Nat.le_refl _) _⟩) ?_
    intro w5 h5
    have H5 := Lib.hid h5
    clear h5
    rw [← hbt]
    clear hbt
    have hg24 : Grow w2 w5 := (H3.out.2.tr G4.out).tr H5.out.2
    have hg15 : Grow w w5 := (H1.out.2.2.2.tr Hg.out).tr hg24
    have hRA : ReachAt w5 bw (w.heap.size + 1) bt b A c (.slice (some ⟨gs, 0, none⟩) 35 cs) msg s :=
      ⟨HP.out.grow hg15, (H3.out.1.grow G4.out).grow H5.out.2, Hb.out.grow hg24, (H1.out.2.1.grow Hg.out).grow hg24, HS.out.grow hg15, H5.out.1, ownsRow_base (ownsRow_grow HT.out H5.out.2) (Nat.zero_le _)⟩
    have HRA := Lib.hid hRA
    have G15 := Lib.hid hg15
    have hR5 := Lib.hid ((H1.out.2.2.1.grow Hg.out).grow hg24)
    clear hRA hg24 hg15
    go_wp2_with fail
    refine (tog_c 38 #[.pointer (some ⟨bw, 0, none⟩), .pointer (some ⟨w.heap.size + 1, 0, none⟩), .pointer (some ⟨bt, 0, none⟩)] (fun i => walkE (s.getD i D.zero) (15 - (stepsE msg).getD i 0)) _ HRA.out.pla callFunc_reach1
      (fun i W hi hW _ => reach1_c i bw (w.heap.size + 1) bt b A c _ msg s W hi (HRA.out.grow hW))).mono ?_
    rintro e w6 ⟨rfl, hg6⟩
    have G6 := Lib.hid hg6
    clear hg6
    have hz : ofTo (fun i => walkE (s.getD i D.zero) (15 - (stepsE msg).getD i 0)) 35 = reachE msg s := rfl
    rw [hz]
    clear hz
    have s2 := (reachE msg s).sz
    have o2 := (reachE msg s).one
    generalize hz : reachE msg s = z at *
    have Hz := Lib.hid hz
    clear hz
    have hzz : #[Value.int .u32 0, .int .u32 0, .int .u32 0, .int .u32 0].size = (us z.1).size := by rw [s2]; rfl
    go_upto_region 6 with (refine wpList_store_new rfl 30 (.tmp 8) (.tmp 17) rfl (us z.1) rfl rfl (by rw [s2]; kernel_rfl) hzz o2 ?_)
    obtain ⟨bk, hbk⟩ : ∃ bk, bk = w6.heap.size := ⟨_, rfl⟩
    have hbk2 : w.heap.size + 1 + 1 < bk := hbk ▸ Nat.lt_of_lt_of_le hR5.out.lt G6.out.size
    refine wp_gen (fun W => Blk W bk 30 (us z.1) ∧ Blk W (w.heap.size + 1 + 1) 30 (us D.zero.1) ∧ Grow w W) (hbk ▸ ⟨Blk.new _ _ _, (hR5.out.grow G6.out).alloc _, (G15.out.tr G6.out).alloc (Nat.le_trans G15.out.size G6.out.size) _⟩) ?_
    intro w7 h7
    simp only [Act.put]
    rw [← hbk]
    clear hbk hzz
    have hK := h7.1
    have hR := h7.2.1
    have G7 := Lib.hid h7.2.2
    clear h7
    go_wp2_with (first
      | (refine wpList_load_row_g rfl 30 (.tmp 8) rfl (bk) rfl _ (us z.1) (0, 0) _ hK Tryd.underlying30 rfl (by rw [s2]; kernel_rfl) ?_)
      | (refine wpList_store_row rfl 30 (.tmp 4) (.tmp 18) rfl (w.heap.size + 1 + 1) (us z.1) rfl rfl _ _ hR (by rw [s2]; kernel_rfl) (by rw [s2]; exact D.zero.sz) o2 ?_))
    refine bodyPost_ret (results_row_tmp (p := 4) (q := 5) (ty := 30) rfl _ _ (w.heap.size + 1 + 1) _ (us z.1) (0, 0) _ rfl (setRow_heap _ _ _ _ _ _ hR) Tryd.underlying30 rfl (by rw [s2]; kernel_rfl)) rfl ⟨by first | rfl | (rw [Hz.out]; rfl), ?_⟩
    exact Below.setRow G7.out (by omega) _
  · have hr : reachP msg s = (D.zero, false) := by unfold reachP; rw [if_neg (by rw [hs.2.2.1]; exact hn)]
    rw [hr]
    clear hr hP hs
    have h35 : ((n : Int) != 35) = true := by rw [bne_iff_ne]; omega
    clear hn
    go_enter Tryd.func27, Tryd.ntmps27
    go_wp2
    refine bodyPost_ret (v := .tuple #[.agg (us D.zero.1), .bool false]) ?_ rfl ⟨rfl, (((Below.refl w.heap.size w).alloc (Nat.le_refl _) _).alloc (by simp) _).alloc (by simp; omega) _⟩
    simp [results, Tryd.results27, go_sem]
    rfl
theorem checkE_eq (pub msg : D) (s : List D) : ockE pub msg s = ((reachP msg s).2 && decide ((reachP msg s).1 = pub)) := by
  unfold ockE reachP
  by_cases h : s.length = 35 <;> simp [h]
end Go.Proofs.YtjokaennipmmaaaDoor
