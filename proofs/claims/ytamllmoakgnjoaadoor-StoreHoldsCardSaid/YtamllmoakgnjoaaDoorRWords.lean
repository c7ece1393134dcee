/- seedcornref01.Words: bytes as words. -/
import Derived.Test.YtamllmoakgnjoaaDoorBytes
namespace Go.Proofs.YtamllmoakgnjoaaDoor
open Go.RowKit
theorem wordsOf_succ (b : List UInt8) (n : Nat) : wordsOf b (n + 1) = wordsOf b n ++ [leW b (4 * n)] := by simp [wordsOf, List.range_succ]
theorem wordsOf_length (b : List UInt8) (n : Nat) : (wordsOf b n).length = n := by simp [wordsOf]
theorem wordsOf_getD (b : List UInt8) (n i : Nat) (h : i < n) : (wordsOf b n).getD i 0 = leW b (4 * i) := by simp [wordsOf, List.getD, h]
/-- What the four bytes from p on make, the last t of them taken. -/
def leT (b : List UInt8) (p : Nat) : Nat → Nat
  | 0 => 0
  | t + 1 => leT b p t * 256 + (b.getD (p + 3 - t) 0).toNat
theorem leT_lt (b : List UInt8) (p t : Nat) : leT b p t < 256 ^ t := by
  induction t with
  | zero => simp [leT]
  | succ t ih =>
    have := (b.getD (p + 3 - t) 0).toNat_lt
    rw [Nat.pow_succ]
    simp only [leT]
    omega
theorem leT_four (b : List UInt8) (p : Nat) : leT b p 4 = (leW b p).toNat := by
  rw [leW_toNat]
  simp only [leT, Nat.zero_mul, Nat.zero_add, Nat.sub_zero, Nat.add_sub_cancel, show p + 3 - 1 = p + 2 by omega, show p + 3 - 2 = p + 1 by omega]
  omega
theorem info_u32g : (Tryd.prog.info? 25).map (fun i => (i.zero, i.size, i.bytes)) = some (some (.int .u32 0), 1, 4) := by kernel_rfl
theorem u_one (l : List UInt32) : ∀ x ∈ l.map u, x.oneCell' = true := by simp [Value.oneCell']
structure WordsAt (w0 w : World) (v : Value) (l : List UInt32) : Prop where
  own : w.ownsRow w0.heap.size 25 1 v l.length (l.map u)
  gro : Grow w0 w
set_option maxRecDepth 100000 in
set_option maxHeartbeats 2000000 in
theorem rwords_c (b : List UInt8) (q : Nat) (w : World) (hb : b.length = 4 * q) (hm : b.length ≤ 10000000) :
    Calls Tryd.prog 85 #[.string ⟨b.toArray⟩] w fun e w' => ∃ v, e = .returned (.tuple #[v, .int .i64 0]) ∧ WordsAt w w' v (wordsOf b q) := by
  have hsz : (ByteArray.mk b.toArray).size = b.length := by simp [ByteArray.size]
  have Hix := Lib.hid (fun j hj W => index_str b j hj W)
  obtain ⟨N, hN⟩ : ∃ N, N = b.length := ⟨_, rfl⟩
  rw [← hN] at hb hsz hm Hix
  clear hN
  have t0 : (N : Int).tmod 4 = 0 := by rw [Int.tmod_eq_emod_of_nonneg (by omega)]; omega
  have t1 : ((0 : Int) != 0) = false := by decide
  have t2 : (N : Int) / 4 = (q : Int) := by omega
  have hmk := fun W => run_make_const (P := Tryd.prog) 83 25 _ 1 4 Tryd.underlying83 info_u32g 0 q (by omega) (by omega) (by omega) W
  simp only [Int.cast_ofNat_Int, Nat.mul_one] at hmk
  have HN := Lib.hid hb
  clear hb
  go_enter Tryd.func85, Tryd.ntmps85
  go_upto_region 4 with (fail)
  clear hmk t0 t1 t2
  have hown0 : (w.alloc (.cells (madeCells #[Value.int .u32 0] q) 25)).ownsRow w.heap.size 25 1 (.slice (some ⟨w.heap.size, 0, none⟩) 0 q) 0 [] :=
    World.ownsRow_made w _ q (Nat.le_refl _) (by have := HN.out; simp only [maxLen]; omega) (by simp [madeCells])
  refine wp_gen (fun W => WordsAt w W (.slice (some ⟨w.heap.size, 0, none⟩) 0 q) []) ⟨hown0, (Grow.refl _).alloc (Nat.le_refl _) _⟩ ?_
  clear hown0
  intro w1 h1
  have H1 := Lib.hid h1
  clear h1
  generalize Value.slice (some ⟨w.heap.size, 0, none⟩) 0 q = v0 at *
  go_wp2_with fail
  go_loopw [4, 5, 6, 7] (fun v i _ _ wr => ∃ j : Nat, j ≤ q ∧ i = .int .i64 (4 * (j : Int)) ∧ WordsAt w wr v (wordsOf b j)) (fun _ i _ _ _ => N - (intOf i).toNat)
  case atStart => exact ⟨0, by omega, rfl, H1.out⟩
  case round =>
    obtain ⟨j, hj, rfl, hM⟩ := hrel
    have HM := Lib.hid hM
    clear hM H1
    by_cases hlt : j < q
    · have hj1 : decide (4 * (j : Int) < (N : Int)) = true := by have := HN.out; simp; omega
      have Hs := Lib.hid (wordsOf_succ b j)
      have Hll := Lib.hid (wordsOf_length b j)
      have H4 := Lib.hid (leT_four b (4 * j))
      generalize wordsOf b j = l at *
      go_wp2_with fail
      clear hj1
      obtain ⟨wo, hwo⟩ : ∃ wo : World, wo = wr := ⟨_, rfl⟩
      subst hwo
      go_loop [6, 7] (fun n k => ∃ t : Nat, t ≤ 4 ∧ k = .int .i64 (3 - (t : Int)) ∧ n = .int .u32 (leT b (4 * j) t : Int)) (fun _ k => (intOf k + 1).toNat)
      case atStart => exact ⟨0, by omega, rfl, rfl⟩
      case round =>
        obtain ⟨t, ht, rfl, rfl⟩ := hrel
        by_cases hlk : t < 4
        · have hj1 : decide ((0 : Int) ≤ 3 - (t : Int)) = true := by simp; omega
          have hn3 : leT b (4 * j) t < 16777216 := Nat.lt_of_lt_of_le (leT_lt b (4 * j) t) (by
            have : 256 ^ t ≤ 256 ^ 3 := Nat.pow_le_pow_right (by omega) (by omega)
            simpa using this)
          have Hst := Lib.hid (show leT b (4 * j) (t + 1) = leT b (4 * j) t * 256 + (b.getD (4 * j + 3 - t) 0).toNat from rfl)
          have x0 := Hix.out (4 * j + 3 - t) (by have := HN.out; omega)
          have k0 := (b.getD (4 * j + 3 - t) 0).toNat_lt
          have hxN : 4 * j + 3 - t < N := by have := HN.out; omega
          have e0 : 4 * (j : Int) + (3 - (t : Int)) = ((4 * j + 3 - t : Nat) : Int) := by omega
          generalize leT b (4 * j) t = n at *
          generalize b.getD (4 * j + 3 - t) 0 = c at *
          generalize 4 * j + 3 - t = x at *
          go_wp2
          go_round
          case rel => exact ⟨t + 1, by omega, val_int (by omega), val_int (by rw [Hst.out]; omega)⟩
          case measure => simp [intOf]; omega
        · have e : t = 4 := by omega
          subst e
          have hj1 : decide ((0 : Int) ≤ 3 - ((4 : Nat) : Int)) = false := by decide
          rw [H4.out]
          generalize leW b (4 * j) = y at *
          have hown := HM.out.own
          rw [Hll.out] at hown
          have hbase := HM.out.gro.size
          have hjb : j ≤ 10000000 := by have := HN.out; omega
          go_wp2_with (at_builtin; refine wpList_append_new rfl (.tmp 35) (.tmp 37) 83 rfl w.heap.size 25 (.int .u32 0) 1 4 Tryd.underlying83 info_u32g rfl (by omega) _ j _ rfl hown 1 1 ([y].map u) rfl rfl (u_one _) (by simp only [maxLen]; omega) (by omega) hbase ?_; intro v' w3 hown' hbel' _)
          go_roundw
          case rel =>
            refine ⟨j + 1, by omega, by go_num, ?_⟩
            rw [Hs.out]
            refine ⟨?_, HM.out.gro.trans hbel'⟩
            rw [List.length_append, Hll.out, List.map_append]
            exact hown'
          case measure => have := HN.out; simp [intOf]; omega
    · have e : j = q := by omega
      subst e
      have hj1 : decide (4 * (j : Int) < (N : Int)) = false := by have := HN.out; simp; omega
      go_wp2_with fail
      go_ret2
      exact ⟨_, rfl, HM.out⟩
end Go.Proofs.YtamllmoakgnjoaaDoor
