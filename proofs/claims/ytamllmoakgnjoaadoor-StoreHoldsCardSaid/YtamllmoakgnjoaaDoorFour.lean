/- digest.four: the words of sixteen bytes. -/
import Derived.Test.YtamllmoakgnjoaaDoorBytes
namespace Go.Proofs.YtamllmoakgnjoaaDoor
open Go.RowKit
def fourTo (l : List UInt8) (p : Nat) : Nat → List UInt32
  | 0 => [0, 0, 0, 0]
  | j + 1 => (fourTo l p j).set j (leW l (p + 4 * j))
theorem fourTo_length (l : List UInt8) (p j : Nat) : (fourTo l p j).length = 4 := by
  induction j with
  | zero => rfl
  | succ j ih => simp [fourTo, ih]
theorem fourTo_four (l : List UInt8) (p : Nat) : fourTo l p 4 = (blkE l p).1 := rfl
theorem u32_or_add (k d a b : Nat) (hd : d = 2 ^ k) (ha : a < d) (hb : a + b * d < 4294967296) : bits .or .u32 (a : Int) (IntKind.u32.wrap ((b : Int) * (d : Int))) = ((a + b * d : Nat) : Int) := by
  subst hd
  have h0 : IntKind.u32.wrap ((b : Int) * ((2 ^ k : Nat) : Int)) = ((b * 2 ^ k : Nat) : Int) := by
    rw [← Int.natCast_mul]
    show _ % 4294967296 = _
    rw [Int.emod_eq_of_lt (Int.natCast_nonneg _) (by omega)]
  rw [h0]
  show IntKind.u32.wrap ((BitVec.ofInt 32 _ ||| BitVec.ofInt 32 _).toNat : Int) = _
  rw [BitVec.toNat_or, BitVec.ofInt_natCast, BitVec.ofInt_natCast, BitVec.toNat_ofNat, BitVec.toNat_ofNat, Nat.mod_eq_of_lt (by omega), Nat.mod_eq_of_lt (by omega)]
  have h1 : a ||| b * 2 ^ k = a + b * 2 ^ k := by
    rw [Nat.or_comm, ← Nat.shiftLeft_eq, ← Nat.shiftLeft_add_eq_or_of_lt ha, Nat.add_comm]
  rw [h1]
  show (_ : Int) % 4294967296 = _
  rw [Int.emod_eq_of_lt (Int.natCast_nonneg _) (by omega)]
structure FourAt (w0 w : World) (x : List UInt32) : Prop where
  res : Blk w w0.heap.size 26 (us [0, 0, 0, 0])
  box : Blk w (w0.heap.size + 1) 26 (us x)
  gro : Grow w0 w
set_option maxRecDepth 100000 in
set_option maxHeartbeats 1000000 in
theorem four_c (l : List UInt8) (p : Nat) (w : World) (hp : p + 16 ≤ l.length) (hm : l.length ≤ 10000000) :
    Calls Tryd.prog 88 #[.string ⟨l.toArray⟩, .int .i64 (p : Int)] w fun e w' => e = .returned (.agg (us (blkE l p).1)) ∧ Grow w w' := by
  go_enter Tryd.func88, Tryd.ntmps88
  go_upto_region 2 with (fail)
  refine wp_gen (fun W => FourAt w W [0, 0, 0, 0]) ⟨(Blk.new _ _ _).alloc _, Blk.new1 _ _ _ _, ((Below.refl w.heap.size w).alloc (Nat.le_refl _) _).alloc (by simp) _⟩ ?_
  intro w1 h1
  have H1 := Lib.hid h1
  clear h1
  have Hix := Lib.hid (fun j hj W => index_str l j hj W)
  have Hsz := Lib.hid (show (ByteArray.mk l.toArray).size = l.length by simp [ByteArray.size])
  go_wp2_with fail
  go_loopw [8] (fun i wr => ∃ j : Nat, j ≤ 4 ∧ i = .int .i64 j ∧ FourAt w wr (fourTo l p j)) (fun i _ => 4 - (intOf i).toNat)
  case atStart => exact ⟨0, by omega, rfl, H1.out⟩
  case round =>
    obtain ⟨j, hj, rfl, hN⟩ := hrel
    have HN := Lib.hid hN
    clear hN H1
    by_cases hlt : j < 4
    · have hj1 : decide ((j : Int) < 4) = true := by simp; omega
      have b1 : (0 : Int) ≤ j := by omega
      have b2 : (j : Int) < 4 := by omega
      have HL := Lib.hid (fourTo_length l p j)
      have Hs := Lib.hid (show fourTo l p (j + 1) = (fourTo l p j).set j (leW l (p + 4 * j)) from rfl)
      have Hw := Lib.hid (leW_toNat l (p + 4 * j))
      obtain ⟨q, hq⟩ : ∃ q, q = p + 4 * j := ⟨_, rfl⟩
      have hql : q + 4 ≤ l.length := by omega
      have e0 : (p : Int) + 4 * (j : Int) = (q : Int) := by omega
      have e1 : IntKind.i64.wrap ((q : Int) + 1) = ((q + 1 : Nat) : Int) := by rw [IntKind.wrap_i64]; omega
      have e2 : IntKind.i64.wrap ((q : Int) + 2) = ((q + 2 : Nat) : Int) := by rw [IntKind.wrap_i64]; omega
      have e3 : IntKind.i64.wrap ((q : Int) + 3) = ((q + 3 : Nat) : Int) := by rw [IntKind.wrap_i64]; omega
      rw [← hq] at Hw Hs
      clear hq
      have x0 := Hix.out q (by omega)
      have x1 := Hix.out (q + 1) (by omega)
      have x2 := Hix.out (q + 2) (by omega)
      have x3 := Hix.out (q + 3) (by omega)
      generalize fourTo l p j = z at *
      generalize leW l q = y at *
      generalize l.getD q 0 = c0 at *
      generalize l.getD (q + 1) 0 = c1 at *
      generalize l.getD (q + 2) 0 = c2 at *
      generalize l.getD (q + 3) 0 = c3 at *
      have k0 := c0.toNat_lt
      have k1 := c1.toNat_lt
      have k2 := c2.toNat_lt
      have k3 := c3.toNat_lt
      have w0 : IntKind.u32.wrap (c0.toNat : Int) = (c0.toNat : Int) := by rw [IntKind.wrap_u32]; omega
      have w1 : IntKind.u32.wrap (c1.toNat : Int) = (c1.toNat : Int) := by rw [IntKind.wrap_u32]; omega
      have w2 : IntKind.u32.wrap (c2.toNat : Int) = (c2.toNat : Int) := by rw [IntKind.wrap_u32]; omega
      have w3 : IntKind.u32.wrap (c3.toNat : Int) = (c3.toNat : Int) := by rw [IntKind.wrap_u32]; omega
      have o1 : bits .or .u32 (c0.toNat : Int) (IntKind.u32.wrap ((c1.toNat : Int) * 256)) = _ := u32_or_add 8 256 c0.toNat c1.toNat rfl k0 (by omega)
      have o2 : bits .or .u32 ((c0.toNat + c1.toNat * 256 : Nat) : Int) (IntKind.u32.wrap ((c2.toNat : Int) * 65536)) = _ := u32_or_add 16 65536 _ c2.toNat rfl (by omega) (by omega)
      have o3 : bits .or .u32 ((c0.toNat + c1.toNat * 256 + c2.toNat * 65536 : Nat) : Int) (IntKind.u32.wrap ((c3.toNat : Int) * 16777216)) = _ := u32_or_add 24 16777216 _ c3.toNat rfl (by omega) (by omega)
      have o4 : ((c0.toNat + c1.toNat * 256 + c2.toNat * 65536 + c3.toNat * 16777216 : Nat) : Int) = (y.toNat : Int) := by rw [Hw.out]; omega
      rw [o4] at o3
      clear o4
      generalize c0.toNat + c1.toNat * 256 + c2.toNat * 65536 = v2 at *
      generalize c0.toNat + c1.toNat * 256 = v1 at *
      go_upto_region 6 with (fail)
      refine wp_region_tail 26 (fun W => FourAt w W z) (by kernel_rfl) (by kernel_rfl) ⟨HN.out.res.drew, HN.out.box.drew, HN.out.gro.drew⟩ ?_
      simp only [List.take_succ_cons, List.take_zero]
      (refine quiet_ex rfl ?_; apply Exists.intro; refine ⟨fun W hW => ?_, ?_⟩)
      · go_simp; try with_reducible rfl
      simp only [Act.put, List.setIfInBounds_toArray, List.set_cons_zero, List.set_cons_succ]
      (refine quiet_ex rfl ?_; apply Exists.intro; refine ⟨fun W hW => ?_, ?_⟩)
      · go_simp; try with_reducible rfl
      simp only [Act.put, List.setIfInBounds_toArray, List.set_cons_zero, List.set_cons_succ]
      (refine quiet_ex rfl ?_; apply Exists.intro; refine ⟨fun W hW => ?_, ?_⟩)
      · go_simp; try with_reducible rfl
      simp only [Act.put, List.setIfInBounds_toArray, List.set_cons_zero, List.set_cons_succ]
      (refine quiet_ex rfl ?_; apply Exists.intro; refine ⟨fun W hW => ?_, ?_⟩)
      · have c := x0 W; go_simp; try with_reducible rfl
      simp only [Act.put, List.setIfInBounds_toArray, List.set_cons_zero, List.set_cons_succ]
      (refine quiet_ex rfl ?_; apply Exists.intro; refine ⟨fun W hW => ?_, ?_⟩)
      · go_simp; try with_reducible rfl
      simp only [Act.put, List.setIfInBounds_toArray, List.set_cons_zero, List.set_cons_succ]
      (refine quiet_ex rfl ?_; apply Exists.intro; refine ⟨fun W hW => ?_, ?_⟩)
      · go_simp; try with_reducible rfl
      simp only [Act.put, List.setIfInBounds_toArray, List.set_cons_zero, List.set_cons_succ]
      (refine quiet_ex rfl ?_; apply Exists.intro; refine ⟨fun W hW => ?_, ?_⟩)
      · go_simp; try with_reducible rfl
      simp only [Act.put, List.setIfInBounds_toArray, List.set_cons_zero, List.set_cons_succ]
      (refine quiet_ex rfl ?_; apply Exists.intro; refine ⟨fun W hW => ?_, ?_⟩)
      · go_simp; try with_reducible rfl
      simp only [Act.put, List.setIfInBounds_toArray, List.set_cons_zero, List.set_cons_succ]
      (refine quiet_ex rfl ?_; apply Exists.intro; refine ⟨fun W hW => ?_, ?_⟩)
      · have c := x1 W; simp only [Int.natCast_add, Int.cast_ofNat_Int] at c; go_simp; try with_reducible rfl
      simp only [Act.put, List.setIfInBounds_toArray, List.set_cons_zero, List.set_cons_succ]
      (refine quiet_ex rfl ?_; apply Exists.intro; refine ⟨fun W hW => ?_, ?_⟩)
      · go_simp; try with_reducible rfl
      simp only [Act.put, List.setIfInBounds_toArray, List.set_cons_zero, List.set_cons_succ]
      (refine quiet_ex rfl ?_; apply Exists.intro; refine ⟨fun W hW => ?_, ?_⟩)
      · go_simp; try with_reducible rfl
      simp only [Act.put, List.setIfInBounds_toArray, List.set_cons_zero, List.set_cons_succ]
      (refine quiet_ex rfl ?_; apply Exists.intro; refine ⟨fun W hW => ?_, ?_⟩)
      · go_simp; try with_reducible rfl
      simp only [Act.put, List.setIfInBounds_toArray, List.set_cons_zero, List.set_cons_succ]
      (refine quiet_ex rfl ?_; apply Exists.intro; refine ⟨fun W hW => ?_, ?_⟩)
      · go_simp; try with_reducible rfl
      simp only [Act.put, List.setIfInBounds_toArray, List.set_cons_zero, List.set_cons_succ]
      (refine quiet_ex rfl ?_; apply Exists.intro; refine ⟨fun W hW => ?_, ?_⟩)
      · go_simp; try with_reducible rfl
      simp only [Act.put, List.setIfInBounds_toArray, List.set_cons_zero, List.set_cons_succ]
      (refine quiet_ex rfl ?_; apply Exists.intro; refine ⟨fun W hW => ?_, ?_⟩)
      · go_simp; try with_reducible rfl
      simp only [Act.put, List.setIfInBounds_toArray, List.set_cons_zero, List.set_cons_succ]
      (refine quiet_ex rfl ?_; apply Exists.intro; refine ⟨fun W hW => ?_, ?_⟩)
      · have c := x2 W; simp only [Int.natCast_add, Int.cast_ofNat_Int] at c; go_simp; try with_reducible rfl
      simp only [Act.put, List.setIfInBounds_toArray, List.set_cons_zero, List.set_cons_succ]
      (refine quiet_ex rfl ?_; apply Exists.intro; refine ⟨fun W hW => ?_, ?_⟩)
      · go_simp; try with_reducible rfl
      simp only [Act.put, List.setIfInBounds_toArray, List.set_cons_zero, List.set_cons_succ]
      (refine quiet_ex rfl ?_; apply Exists.intro; refine ⟨fun W hW => ?_, ?_⟩)
      · go_simp; try with_reducible rfl
      simp only [Act.put, List.setIfInBounds_toArray, List.set_cons_zero, List.set_cons_succ]
      (refine quiet_ex rfl ?_; apply Exists.intro; refine ⟨fun W hW => ?_, ?_⟩)
      · go_simp; try with_reducible rfl
      simp only [Act.put, List.setIfInBounds_toArray, List.set_cons_zero, List.set_cons_succ]
      (refine quiet_ex rfl ?_; apply Exists.intro; refine ⟨fun W hW => ?_, ?_⟩)
      · go_simp; try with_reducible rfl
      simp only [Act.put, List.setIfInBounds_toArray, List.set_cons_zero, List.set_cons_succ]
      (refine quiet_ex rfl ?_; apply Exists.intro; refine ⟨fun W hW => ?_, ?_⟩)
      · go_simp; try with_reducible rfl
      simp only [Act.put, List.setIfInBounds_toArray, List.set_cons_zero, List.set_cons_succ]
      (refine quiet_ex rfl ?_; apply Exists.intro; refine ⟨fun W hW => ?_, ?_⟩)
      · go_simp; try with_reducible rfl
      simp only [Act.put, List.setIfInBounds_toArray, List.set_cons_zero, List.set_cons_succ]
      (refine quiet_ex rfl ?_; apply Exists.intro; refine ⟨fun W hW => ?_, ?_⟩)
      · have c := x3 W; simp only [Int.natCast_add, Int.cast_ofNat_Int] at c; go_simp; try with_reducible rfl
      simp only [Act.put, List.setIfInBounds_toArray, List.set_cons_zero, List.set_cons_succ]
      (refine quiet_ex rfl ?_; apply Exists.intro; refine ⟨fun W hW => ?_, ?_⟩)
      · go_simp; try with_reducible rfl
      simp only [Act.put, List.setIfInBounds_toArray, List.set_cons_zero, List.set_cons_succ]
      (refine quiet_ex rfl ?_; apply Exists.intro; refine ⟨fun W hW => ?_, ?_⟩)
      · go_simp; try with_reducible rfl
      simp only [Act.put, List.setIfInBounds_toArray, List.set_cons_zero, List.set_cons_succ]
      (refine quiet_ex rfl ?_; apply Exists.intro; refine ⟨fun W hW => ?_, ?_⟩)
      · go_simp; try with_reducible rfl
      simp only [Act.put, List.setIfInBounds_toArray, List.set_cons_zero, List.set_cons_succ]
      refine wpQuiet_nil ?_
      intro w4 h4
      have f1 := h4.box.frozen j
      have c1' := (h4.box.cell j).trans (us_get z j (by rw [HL.out]; omega))
      have H4 := Lib.hid h4
      clear h4 o1 o2 o3 w0 w1 w2 w3 e0 e1 e2 e3 x0 x1 x2 x3
      simp only [List.drop_succ_cons, List.drop_zero]
      go_wp2_with fail
      go_roundw
      case rel =>
        refine ⟨j + 1, by omega, by go_num, ?_⟩
        rw [Hs.out]
        have h5 := H4.out.box.set_ j (.int .u32 (y.toNat : Int))
        rw [us_set] at h5
        exact ⟨H4.out.res.far (by simp) _, h5, H4.out.gro.setCell (by simp) _⟩
      case measure => simp [intOf]; omega
    · have e4 : j = 4 := by omega
      subst e4
      rw [fourTo_four] at HN
      have hB := HN.out.box
      have hR := HN.out.res
      have sz := (blkE l p).sz
      have on := (blkE l p).one
      generalize hy : blkE l p = y at *
      have Hy := Lib.hid hy
      clear hy
      go_wp2_with (first
        | (refine wpList_load_row_g rfl 26 (.tmp 5) rfl (w.heap.size + 1) rfl _ (us y.1) (0, 0) _ hB Tryd.underlying26 rfl (by rw [sz]; kernel_rfl) ?_)
        | (refine wpList_store_row rfl 26 (.tmp 4) (.tmp 43) rfl w.heap.size (us y.1) rfl rfl _ _ hR (by rw [sz]; kernel_rfl) (by rw [sz]; rfl) on ?_))
      refine bodyPost_ret (results_cell_row (p := 4) (ty := 26) rfl _ _ (w.heap.size) _ (us y.1) (0, 0) _ rfl (setRow_heap _ _ _ _ _ _ hR) Tryd.underlying26 rfl (by rw [sz]; kernel_rfl)) rfl ⟨by rw [Hy.out], ?_⟩
      exact HN.out.gro.setRow (Nat.le_refl _) _
end Go.Proofs.YtamllmoakgnjoaaDoor
