/- onetime.Steps: it returns the numbers of the message, in a row of its own; the heap only grows. -/
import Derived.Test.YtjokaennipmmaaaDoorGen
import Derived.Test.YtjokaennipmmaaaDoorPub
namespace Go.Proofs.YtjokaennipmmaaaDoor
open Go.RowKit
theorem u32_and15 (n : Nat) (h : n < 4294967296) : bits BinOp.and .u32 (n : Int) 15 = ((n % 16 : Nat) : Int) := by
  have e : n &&& 15 = n % 16 := Nat.and_two_pow_sub_one_eq_mod n 4
  show IntKind.u32.wrap ((BitVec.ofInt 32 (n : Int) &&& BitVec.ofInt 32 15).toNat : Int) = _
  rw [BitVec.toNat_and, BitVec.ofInt_natCast, BitVec.toNat_ofNat, Nat.mod_eq_of_lt h, show (BitVec.ofInt 32 15).toNat = 15 from rfl, e]
  show (_ : Int) % 4294967296 = _
  omega
theorem i64_and15 (n : Nat) (h : n < 9223372036854775808) : bits BinOp.and .i64 (n : Int) 15 = ((n % 16 : Nat) : Int) := by
  have e : n &&& 15 = n % 16 := Nat.and_two_pow_sub_one_eq_mod n 4
  show IntKind.i64.wrap ((BitVec.ofInt 64 (n : Int) &&& BitVec.ofInt 64 15).toNat : Int) = _
  rw [BitVec.toNat_and, BitVec.ofInt_natCast, BitVec.toNat_ofNat, Nat.mod_eq_of_lt (by omega), show (BitVec.ofInt 64 15).toNat = 15 from rfl, e, IntKind.wrap_i64]
  omega
theorem nib_bits (c : UInt32) (k : Nat) (hk : k < 8) : bits BinOp.and .u32 ((c.toNat : Int) / 2 ^ (28 - 4 * k)) 15 = (digN c k : Int) := by
  have e : (2 : Nat) ^ (28 - 4 * k) = 16 ^ (7 - k) := by
    rw [show (16 : Nat) = 2 ^ 4 from rfl, ← Nat.pow_mul, show 28 - 4 * k = 4 * (7 - k) by omega]
  have h : (c.toNat : Int) / 2 ^ (28 - 4 * k) = ((c.toNat / 16 ^ (7 - k) : Nat) : Int) := by
    rw [← e]; simp
  rw [h, u32_and15 _ (Nat.lt_of_le_of_lt (Nat.div_le_self _ _) c.toNat_lt)]
  rfl
structure StepsAt (w1 wr : World) (v : Value) (msg : D) (q : Nat) : Prop where
  own : wr.ownsRow w1.heap.size 3 1 v q (ints (digsTo msg q))
  gro : Grow w1 wr
set_option maxHeartbeats 1000000 in
theorem steps_c (msg : D) (w : World) :
    Calls Tryd.prog 36 #[.agg (us msg.1)] w fun e w' => ∃ v, e = .returned v ∧ w'.ownsRow w.heap.size 3 1 v 35 (ints (stepsE msg)) ∧ Grow w w' := by
  go_enter Tryd.func36, Tryd.ntmps36
  go_upto_region 1 with (fail)
  refine wp_gen (fun W => Blk W w.heap.size 30 (us msg.1) ∧ Grow w W) ⟨Blk.new _ _ _, (Grow.refl _).alloc (Nat.le_refl _) _⟩ ?_
  intro w1 h1
  have hB := Lib.hid h1.1
  have G1 := Lib.hid h1.2
  clear h1
  have hmk := fun W => run_make_const (P := Tryd.prog) 36 3 _ 1 8 Tryd.underlying36 info_int 0 35 (by omega) (by omega) (by omega) W
  simp only [Int.cast_ofNat_Int, Nat.reduceMul] at hmk
  go_upto_region 2 with (fail)
  clear hmk
  have hown0 : (w1.alloc (.cells (madeCells #[Value.int .i64 0] 35) 3)).ownsRow w1.heap.size 3 1 (.slice (some ⟨w1.heap.size, 0, none⟩) 0 35) 0 [] :=
    World.ownsRow_made w1 _ 35 (Nat.le_refl _) (by simp [maxLen]) (by simp [madeCells])
  refine wp_gen (fun W => StepsAt w1 W (.slice (some ⟨w1.heap.size, 0, none⟩) 0 35) msg 0) ⟨hown0, (Grow.refl _).alloc (Nat.le_refl _) _⟩ ?_
  clear hown0
  intro w2 h2
  have H2 := Lib.hid h2
  have hB2 := hB.out.grow h2.gro
  clear h2
  generalize Value.slice (some ⟨w1.heap.size, 0, none⟩) 0 35 = v0 at *
  have hx := fun j hj W => run_index_us (P := Tryd.prog) (t := 30) (e := 28) (n := 4) Tryd.underlying30 info_u32 agg_u32 msg.1 msg.2 j hj W
  have Hx := Lib.hid hx
  clear hx
  go_wp2_with (refine wpList_load_row_g rfl 30 (.tmp 1) rfl (w.heap.size) rfl _ (us msg.1) (0, 0) _ hB2 Tryd.underlying30 rfl (by rw [msg.sz]; kernel_rfl) ?_)
  clear hB2
  go_loopw [3, 4, 11] (fun v s i wr => ∃ j : Nat, j ≤ 4 ∧ i = .int .i64 j ∧ s = .int .i64 (sumTo msg (8 * j)) ∧ StepsAt w1 wr v msg (8 * j)) (fun _ _ i _ => 4 - (intOf i).toNat)
  case atStart => exact ⟨0, by omega, rfl, rfl, H2.out⟩
  case round =>
    obtain ⟨j, hj, rfl, rfl, hN⟩ := hrel
    have HN := Lib.hid hN
    clear hN H2
    by_cases hlt : j < 4
    · have x1 := Hx.out j hlt
      have hj1 : decide ((j : Int) < 4) = true := by simp; omega
      generalize hc : msg.1.getD j 0 = c at *
      have Hc := Lib.hid hc
      clear hc
      go_wp2_with fail
      clear x1 hj1
      obtain ⟨wo, hwo⟩ : ∃ wo : World, wo = wr := ⟨_, rfl⟩
      subst hwo
      go_loopw [3, 4, 7] (fun v s i wr => ∃ k : Nat, k ≤ 8 ∧ i = .int .i64 (28 - 4 * (k : Int)) ∧ s = .int .i64 (sumTo msg (8 * j + k)) ∧ StepsAt w1 wr v msg (8 * j + k)) (fun _ _ i _ => (intOf i + 4).toNat)
      case atStart => exact ⟨0, by omega, rfl, rfl, HN.out⟩
      case round =>
        obtain ⟨k, hk, rfl, rfl, hM⟩ := hrel
        have HM := Lib.hid hM
        clear hM HN
        have hsum := sumTo_le msg (8 * j + k)
        by_cases hkl : k < 8
        · have hdl := digN_lt c k
          have Hnx := Lib.hid (show sumTo msg (8 * j + (k + 1)) = sumTo msg (8 * j + k) + (15 - digN c k) by
            show sumTo msg (8 * j + k + 1) = _
            simp only [sumTo]; rw [show (8 * j + k) / 8 = j by omega, show (8 * j + k) % 8 = k by omega, Hc.out])
          have Hdx := Lib.hid (show digsTo msg (8 * j + (k + 1)) = digsTo msg (8 * j + k) ++ [digN c k] by
            show digsTo msg (8 * j + k + 1) = _
            simp only [digsTo]; rw [show (8 * j + k) / 8 = j by omega, show (8 * j + k) % 8 = k by omega, Hc.out])
          generalize sumTo msg (8 * j + k) = S at *
          generalize hd : digN c k = d at *
          have Hd := Lib.hid hd
          clear hd
          have hv : bits BinOp.and .u32 ((c.toNat : Int) / 2 ^ (28 - 4 * k)) 15 = (d : Int) := by rw [← Hd.out]; exact nib_bits c k (by omega)
          have hown := HM.out.own
          have hbase := HM.out.gro.size
          go_wp2_with (at_builtin; refine wpList_append_new rfl (.tmp 23) (.tmp 25) 36 rfl w1.heap.size 3 (.int .i64 0) 1 8 Tryd.underlying36 info_int rfl (by omega) _ (8 * j + k) _ rfl hown 1 1 [.int .i64 (d : Int)] rfl rfl (int_one _) (by simp only [maxLen]; omega) (by omega) hbase ?_; intro v' w3 hown' hbel' _)
          go_roundw
          case rel =>
            refine ⟨k + 1, by omega, val_int (by omega), val_int (by rw [Hnx.out]; omega), ?_, HM.out.gro.trans hbel'⟩
            rw [Hdx.out]
            rw [← Nat.add_assoc]
            simpa [ints] using hown'
          case measure => simp [intOf]; omega
        · have e8 : k = 8 := by omega
          subst e8
          go_wp2
          go_roundw
          case rel =>
            exact ⟨j + 1, by omega, by go_num, by rw [show 8 * (j + 1) = 8 * j + 8 by omega], by rw [show 8 * (j + 1) = 8 * j + 8 by omega]; exact HM.out⟩
          case measure => simp [intOf]; omega
    · have e4 : j = 4 := by omega
      subst e4
      have hsum := sumTo_le msg 32
      have Hst := Lib.hid (show stepsE msg = digsTo msg 32 ++ [sumTo msg 32 / 256 % 16, sumTo msg 32 / 16 % 16, sumTo msg 32 % 16] from rfl)
      simp only [Nat.reduceMul] at HN hsum ⊢
      generalize sumTo msg 32 = S at *
      have hv1 : bits BinOp.and .i64 ((S : Int) / 256) 15 = ((S / 256 % 16 : Nat) : Int) := by
        rw [show ((S : Int) / 256) = ((S / 256 : Nat) : Int) by omega]; exact i64_and15 _ (by omega)
      have hv2 : bits BinOp.and .i64 ((S : Int) / 16) 15 = ((S / 16 % 16 : Nat) : Int) := by
        rw [show ((S : Int) / 16) = ((S / 16 : Nat) : Int) by omega]; exact i64_and15 _ (by omega)
      have hv3 : bits BinOp.and .i64 (S : Int) 15 = ((S % 16 : Nat) : Int) := i64_and15 _ (by omega)
      generalize hg1 : S / 256 % 16 = d1 at *
      generalize hg2 : S / 16 % 16 = d2 at *
      generalize hg3 : S % 16 = d3 at *
      clear hg1 hg2 hg3
      have hown := HN.out.own
      have hbase := HN.out.gro.size
      go_wp2_with (at_builtin; refine wpList_append_new rfl (.tmp 32) (.tmp 41) 36 rfl w1.heap.size 3 (.int .i64 0) 1 8 Tryd.underlying36 info_int rfl (by omega) _ 32 _ rfl hown 3 3 [.int .i64 (d1 : Int), .int .i64 (d2 : Int), .int .i64 (d3 : Int)] rfl rfl (by simp [Value.oneCell']) (by simp only [maxLen]; omega) (by omega) hbase ?_; intro v' w3 hown' hbel' _)
      go_ret
      refine ⟨_, rfl, ?_, G1.out.tr (HN.out.gro.trans hbel')⟩
      rw [Hst.out]
      refine ownsRow_base ?_ G1.out.size
      simpa [ints] using hown'
end Go.Proofs.YtjokaennipmmaaaDoor
