/- Ahead of the program and of the document, of values of whatever number: aheadE. -/
import Derived.Test.YteiimkglmiadbabDoorRAhead
namespace Go.Proofs.YteiimkglmiadbabDoor
open Go.RowKit
theorem aheadE_no (msg other : D) (s t : List D) (h : s.length ≠ 35 ∨ t.length ≠ 35) : aheadE msg s other t = (0, D.zero, false) := by
  unfold aheadE
  rw [if_neg (by omega)]
set_option maxHeartbeats 1000000 in
theorem ahead_no (msg other : D) (A B : Option Addr) (n c m c' : Nat) (s t : List D) (w : World) (hn : n ≤ 40) (hm : m ≤ 40) (h : n ≠ 35 ∨ m ≠ 35) :
    Calls Tryd.prog 5 #[.agg (us msg.1), .slice A n c, .agg (us other.1), .slice B m c'] w fun e w' =>
      e = .returned (.tuple #[.int .i64 0, .agg (us D.zero.1), .bool false]) ∧ Grow w w' := by
  have two : (((n : Int) != 35) = true) ∨ ((((n : Int) != 35) = false) ∧ (((m : Int) != 35) = true)) := by
    by_cases h1 : n = 35
    · right; subst h1; exact ⟨by decide, by simp; omega⟩
    · left; simp; omega
  have sy := D.zero.sz
  have oy := D.zero.one
  rcases two with t1 | ⟨t1, t2⟩
  all_goals
    go_enter Tryd.func5, Tryd.ntmps5
    go_upto_region 1 with (fail)
    have hg0 := (((Below.refl w.heap.size w).alloc (Nat.le_refl _) (.cells (us msg.1) 24)).alloc (by simp) (.cells (us other.1) 24)).alloc (by simp; omega) (.cells (us D.zero.1) 24)
    refine wp_gen (fun W => Blk W (w.heap.size + 1 + 1) 24 (us D.zero.1) ∧ Grow w W) ⟨Blk.new2 _ _ _ _ _, hg0⟩ ?_
    clear hg0
    intro w1 h1
    have hR := h1.1
    have H1 := Lib.hid h1
    clear h1
    go_wp2_with (refine wpList_store_row rfl 24 (.tmp 9) (.tmp 23) rfl (w.heap.size + 1 + 1) (us D.zero.1) rfl rfl _ _ hR (by rw [sy]; kernel_rfl) rfl oy ?_)
    refine bodyPost_ret (results_t_cell_t (p := 8) (q := 9) (r := 10) (ty := 24) rfl _ _ (w.heap.size + 1 + 1) _ (us D.zero.1) (0, 0) _ rfl (setRow_heap _ _ _ _ _ _ hR) Tryd.underlying24 rfl (by rw [sy]; kernel_rfl)) rfl ⟨rfl, ?_⟩
    exact H1.out.2.setRow (by omega) _
theorem ahead_any (msg other : D) (A B : Option Addr) (n c m c' : Nat) (s t : List D) (w : World) (hn : n ≤ 40) (hm : m ≤ 40) (hP : Places w) (hs : SlD w A n c s) (ht : SlD w B m c' t) :
    Calls Tryd.prog 5 #[.agg (us msg.1), .slice A n c, .agg (us other.1), .slice B m c'] w fun e w' =>
      e = .returned (.tuple #[.int .i64 ((aheadE msg s other t).1 : Int), .agg (us (aheadE msg s other t).2.1.1), .bool (aheadE msg s other t).2.2]) ∧ Grow w w' := by
  by_cases h : n = 35 ∧ m = 35
  · obtain ⟨rfl, rfl⟩ := h
    exact ahead_c msg other A B c c' s t w hP hs ht
  · rw [aheadE_no msg other s t (by rw [hs.2.2.1, ht.2.2.1]; omega)]
    exact ahead_no msg other A B n c m c' s t w hn hm (by omega)
set_option maxHeartbeats 1000000 in
theorem rahead_no (msg other : D) (A B : Option Addr) (n c m c' : Nat) (s t : List D) (w : World) (hn : n ≤ 40) (hm : m ≤ 40) (h : n ≠ 35 ∨ m ≠ 35) :
    Calls Tryd.prog 6 #[.agg (us msg.1), .slice A n c, .agg (us other.1), .slice B m c'] w fun e w' =>
      e = .returned (.tuple #[.int .i64 0, .agg (us D.zero.1), .bool false]) ∧ Grow w w' := by
  have two : (((n : Int) != 35) = true) ∨ ((((n : Int) != 35) = false) ∧ (((m : Int) != 35) = true)) := by
    by_cases h1 : n = 35
    · right; subst h1; exact ⟨by decide, by simp; omega⟩
    · left; simp; omega
  have sy := D.zero.sz
  have oy := D.zero.one
  rcases two with t1 | ⟨t1, t2⟩
  all_goals
    go_enter Tryd.func6, Tryd.ntmps6
    go_upto_region 1 with (fail)
    have hg0 := (((Below.refl w.heap.size w).alloc (Nat.le_refl _) (.cells (us msg.1) 24)).alloc (by simp) (.cells (us other.1) 24)).alloc (by simp; omega) (.cells (us D.zero.1) 24)
    refine wp_gen (fun W => Blk W (w.heap.size + 1 + 1) 24 (us D.zero.1) ∧ Grow w W) ⟨Blk.new2 _ _ _ _ _, hg0⟩ ?_
    clear hg0
    intro w1 h1
    have hR := h1.1
    have H1 := Lib.hid h1
    clear h1
    go_wp2_with (refine wpList_store_row rfl 24 (.tmp 9) (.tmp 22) rfl (w.heap.size + 1 + 1) (us D.zero.1) rfl rfl _ _ hR (by rw [sy]; kernel_rfl) rfl oy ?_)
    refine bodyPost_ret (results_t_cell_t (p := 8) (q := 9) (r := 10) (ty := 24) rfl _ _ (w.heap.size + 1 + 1) _ (us D.zero.1) (0, 0) _ rfl (setRow_heap _ _ _ _ _ _ hR) Tryd.underlying24 rfl (by rw [sy]; kernel_rfl)) rfl ⟨rfl, ?_⟩
    exact H1.out.2.setRow (by omega) _
theorem rahead_any (msg other : D) (A B : Option Addr) (n c m c' : Nat) (s t : List D) (w : World) (hn : n ≤ 40) (hm : m ≤ 40) (hP : Places w) (hs : SlD w A n c s) (ht : SlD w B m c' t) :
    Calls Tryd.prog 6 #[.agg (us msg.1), .slice A n c, .agg (us other.1), .slice B m c'] w fun e w' =>
      e = .returned (.tuple #[.int .i64 ((aheadE msg s other t).1 : Int), .agg (us (aheadE msg s other t).2.1.1), .bool (aheadE msg s other t).2.2]) ∧ Grow w w' := by
  by_cases h : n = 35 ∧ m = 35
  · obtain ⟨rfl, rfl⟩ := h
    exact rahead_c msg other A B c c' s t w hP hs ht
  · rw [aheadE_no msg other s t (by rw [hs.2.2.1, ht.2.2.1]; omega)]
    exact rahead_no msg other A B n c m c' s t w hn hm (by omega)
end Go.Proofs.YteiimkglmiadbabDoor
