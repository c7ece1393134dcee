/- seedcornref05.Steps: the numbers that the document gives a message are stepsE; seedcornlaw05.ints of equal rows. -/
import Derived.Test.YtjokaennipmmaaaDoorTxt
namespace Go.Proofs.YtjokaennipmmaaaDoor
open Go.RowKit
set_option maxRecDepth 100000 in
set_option maxHeartbeats 1000000 in
theorem rsteps_c (msg : D) (w : World) :
    Calls Tryd.prog 48 #[.agg (us msg.1)] w fun e w' => ∃ v, e = .returned v ∧ w'.ownsRow w.heap.size 3 1 v 35 (ints (stepsE msg)) ∧ Grow w w' := by
  go_enter Tryd.func48, Tryd.ntmps48
  go_upto_region 1 with (fail)
  refine wp_gen (fun W => Blk W w.heap.size 30 (us msg.1) ∧ Grow w W) ⟨Blk.new _ _ _, (Grow.refl _).alloc (Nat.le_refl _) _⟩ ?_
  intro w1 h1
  have hB := h1.1
  have G1 := Lib.hid h1.2
  have SM := msg.sz
  clear h1
  go_wp2_with (refine wpList_load_row_g rfl 30 (.tmp 1) rfl (w.heap.size) rfl _ (us msg.1) (0, 0) _ hB Tryd.underlying30 rfl (by rw [SM]; kernel_rfl) ?_)
  refine (txt_c msg _).mono ?_
  rintro e w2 ⟨rfl, hg2⟩
  clear hB
  have G2 := Lib.hid (G1.out.tr hg2)
  clear hg2
  have H0 := Lib.hid (StepsAt.mk (World.ownsRow_nil w2 w2.heap.size 3 1) (Grow.refl w2) : StepsAt w2 w2 (.slice none 0 0) msg 0)
  have hlen := txtE_length msg
  have Hix := Lib.hid (fun j hj W => index_str (txtE msg) j hj W)
  have Hget := Lib.hid (txtE_get msg)
  generalize txtE msg = l at *
  go_wp2_with fail
  go_loopw [4, 5, 6, 7] (fun v s i _ wr => ∃ j : Nat, j ≤ 32 ∧ i = .int .i64 j ∧ s = .int .i64 (sumTo msg j) ∧ StepsAt w2 wr v msg j) (fun _ _ i _ _ => 32 - (intOf i).toNat)
  case atStart => exact ⟨0, by omega, rfl, rfl, H0.out⟩
  case round =>
    obtain ⟨j, hj, rfl, rfl, hN⟩ := hrel
    have HN := Lib.hid hN
    clear hN H0
    have hsum := sumTo_le msg j
    by_cases hlt : j < 32
    · have hj1 : decide ((j : Int) < 32) = true := by simp; omega
      have hx := Hix.out j (by omega)
      rw [Hget.out j hlt] at hx
      have hdl := digN_lt (msg.1.getD (j / 8) 0) (j % 8)
      have hsg := sgn_toNat _ hdl
      have Hnx := Lib.hid (show sumTo msg (j + 1) = sumTo msg j + (15 - digN (msg.1.getD (j / 8) 0) (j % 8)) from rfl)
      have Hdx := Lib.hid (show digsTo msg (j + 1) = digsTo msg j ++ [digN (msg.1.getD (j / 8) 0) (j % 8)] from rfl)
      generalize sumTo msg j = S at *
      generalize hd : digN (msg.1.getD (j / 8) 0) (j % 8) = d at *
      clear hd
      generalize sgn d = c at *
      have hown := HN.out.own
      have hbase := HN.out.gro.size
      by_cases h10 : d < 10
      · rw [if_pos h10] at hsg
        have f1 : IntKind.u8.wrap ((c.toNat : Int) - 48) = (d : Int) := by rw [IntKind.wrap_u8]; omega
        have f2 : decide ((97 : Int) ≤ (c.toNat : Int)) = false := by simp; omega
        clear hsg
        go_wp2_with (at_builtin; refine wpList_append_new rfl (.tmp 31) (.tmp 33) 36 rfl w2.heap.size 3 (.int .i64 0) 1 8 Tryd.underlying36 info_int rfl (by omega) _ j _ rfl hown 1 1 [.int .i64 (d : Int)] rfl rfl (int_one _) (by simp only [maxLen]; omega) (by omega) hbase ?_; intro v' w3 hown' hbel' _)
        go_roundw
        case rel =>
          refine ⟨j + 1, by omega, val_int (by omega), val_int (by rw [Hnx.out]; omega), ?_, HN.out.gro.trans hbel'⟩
          rw [Hdx.out]
          simpa [ints] using hown'
        case measure => simp [intOf]; omega
      · rw [if_neg h10] at hsg
        have f1 : IntKind.u8.wrap ((c.toNat : Int) - 48) = (d : Int) + 39 := by rw [IntKind.wrap_u8]; omega
        have f2 : decide ((97 : Int) ≤ (c.toNat : Int)) = true := by simp; omega
        obtain ⟨q, hq⟩ : ∃ q, d = q + 10 := ⟨d - 10, by omega⟩
        subst hq
        have f3 : IntKind.u8.wrap ((c.toNat : Int) - 97) = (q : Int) := by rw [IntKind.wrap_u8]; omega
        clear hsg
        go_wp2_with (at_builtin; refine wpList_append_new rfl (.tmp 31) (.tmp 33) 36 rfl w2.heap.size 3 (.int .i64 0) 1 8 Tryd.underlying36 info_int rfl (by omega) _ j _ rfl hown 1 1 [.int .i64 ((q : Int) + 10)] rfl rfl (int_one _) (by simp only [maxLen]; omega) (by omega) hbase ?_; intro v' w3 hown' hbel' _)
        go_roundw
        case rel =>
          refine ⟨j + 1, by omega, val_int (by omega), val_int (by rw [Hnx.out]; omega), ?_, HN.out.gro.trans hbel'⟩
          rw [Hdx.out]
          simpa [ints] using hown'
        case measure => simp [intOf]; omega
    · have e : j = 32 := by omega
      subst e
      have Hst := Lib.hid (show stepsE msg = digsTo msg 32 ++ [sumTo msg 32 / 256 % 16, sumTo msg 32 / 16 % 16, sumTo msg 32 % 16] from rfl)
      generalize sumTo msg 32 = S at *
      have hq0 : S / 256 % 16 = S / 256 := by omega
      rw [hq0] at Hst
      clear hq0
      obtain ⟨q, hq⟩ : ∃ q, q = S / 16 := ⟨_, rfl⟩
      rw [← hq] at Hst
      obtain ⟨d1, hd1⟩ : ∃ q, q = S / 256 := ⟨_, rfl⟩
      obtain ⟨d2, hd2⟩ : ∃ d, d = q % 16 := ⟨_, rfl⟩
      obtain ⟨d3, hd3⟩ : ∃ d, d = S % 16 := ⟨_, rfl⟩
      rw [← hd1, ← hd2, ← hd3] at Hst
      have f1 : (S : Int) / 256 = (d1 : Int) := by omega
      have f2 : (S : Int) / 16 = (q : Int) := by omega
      have f3 : (q : Int).tmod 16 = (d2 : Int) := by rw [Int.tmod_eq_emod_of_nonneg (by omega)]; omega
      have f4 : (S : Int).tmod 16 = (d3 : Int) := by rw [Int.tmod_eq_emod_of_nonneg (by omega)]; omega
      have bq : q ≤ 30 := by omega
      have b1 : d1 ≤ 2 := by omega
      clear hq hd1 hd2 hd3
      have hown := HN.out.own
      have hbase := HN.out.gro.size
      go_wp2_with (at_builtin; refine wpList_append_new rfl (.tmp 39) (.tmp 47) 36 rfl w2.heap.size 3 (.int .i64 0) 1 8 Tryd.underlying36 info_int rfl (by omega) _ 32 _ rfl hown 3 3 [.int .i64 (d1 : Int), .int .i64 (d2 : Int), .int .i64 (d3 : Int)] rfl rfl (by simp [Value.oneCell']) (by simp only [maxLen]; omega) (by omega) hbase ?_; intro v' w3 hown' hbel' _)
      go_ret
      refine ⟨_, rfl, ?_, G2.out.tr (HN.out.gro.trans hbel')⟩
      rw [Hst.out]
      refine ownsRow_base ?_ G2.out.size
      simpa [ints] using hown'
end Go.Proofs.YtjokaennipmmaaaDoor
