/- word.Bytes and seedcornref01.Bytes: words as bytes, four each. -/
import Derived.Test.YtamllmoakgnjoaaDoorGen
import Derived.Test.YtamllmoakgnjoaaDoorOfPure
namespace Go.Proofs.YtamllmoakgnjoaaDoor
open Go.RowKit
/-- A slice of words that reads as l, its address and capacity named. -/
def SlU (w : World) (A : Option Addr) (n c : Nat) (l : List UInt32) : Prop :=
  n ≤ c ∧ c ≤ maxLen ∧ l.length = n ∧ (0 < n → ∃ g o, A = some ⟨g, o, none⟩ ∧ g < w.heap.size ∧ ∀ i, i < n → w.cell? ⟨g, o + i, none⟩ = some (u (l.getD i 0)))
theorem SlU.grow {w w' : World} {A : Option Addr} {n c : Nat} {l : List UInt32} (h : SlU w A n c l) (hg : Grow w w') : SlU w' A n c l := by
  obtain ⟨h1, h2, h3, h4⟩ := h
  refine ⟨h1, h2, h3, fun hn => ?_⟩
  obtain ⟨g, o, e, hl, hc⟩ := h4 hn
  exact ⟨g, o, e, Nat.lt_of_lt_of_le hl hg.size, fun i hi => (hg.cell (p := ⟨g, o + i, none⟩) hl).trans (hc i hi)⟩
theorem SlU.of_blk {w : World} {b n : Nat} {e : TypeId} {l : List UInt32} (h : Blk w b e (us l)) (hl : l.length = n) (hm : n ≤ maxLen) : SlU w (some ⟨b, 0, none⟩) n n l :=
  ⟨Nat.le_refl _, hm, hl, fun _ => ⟨b, 0, rfl, h.lt, fun i hi => by rw [Nat.zero_add, h.cell i]; exact us_get l i (by omega)⟩⟩
structure BysAt (w0 wr : World) (v : Value) (b : List UInt8) : Prop where
  own : wr.ownsRow w0.heap.size 5 1 v b.length (bys b)
  gro : Grow w0 wr
theorem BysAt.grow {w0 w w' : World} {v : Value} {b : List UInt8} (h : BysAt w0 w v b) (hg : Grow w w') : BysAt w0 w' v b := ⟨ownsRow_grow h.own hg, h.gro.tr hg⟩
theorem byte_of (n : Nat) (d : Nat) : IntKind.u8.wrap ((n : Int) / (d : Int)) = ((UInt8.ofNat (n / d)).toNat : Int) := by
  rw [← u8_of]; simp
theorem bys_one (b : List UInt8) : ∀ x ∈ bys b, x.oneCell' = true := by simp [bys, Value.oneCell']
set_option maxRecDepth 100000 in
set_option maxHeartbeats 1000000 in
theorem bytes_c (l : List UInt32) (A : Option Addr) (n c : Nat) (w : World) (hm : n ≤ 1000000) (hs : SlU w A n c l) :
    Calls Tryd.prog 65 #[.slice A n c] w fun e w' => e = .returned (.string ⟨(bytesE l).toArray⟩) ∧ Grow w w' := by
  have HS := Lib.hid hs
  clear hs
  have hmk := fun W => run_make_const (P := Tryd.prog) 107 5 _ 1 1 Tryd.underlying107 info_u8 0 (4 * n) (by omega) (by omega) (by omega) W
  simp only [Int.natCast_mul, Int.cast_ofNat_Int, Nat.mul_one] at hmk
  go_enter Tryd.func65, Tryd.ntmps65
  go_upto_region 2 with (fail)
  clear hmk
  have hown0 : (w.alloc (.cells (madeCells #[Value.int .u8 0] (4 * n)) 5)).ownsRow w.heap.size 5 1 (.slice (some ⟨w.heap.size, 0, none⟩) 0 (4 * n)) 0 [] :=
    World.ownsRow_made w _ (4 * n) (Nat.le_refl _) (by simp [maxLen]; omega) (by simp [madeCells])
  refine wp_gen (fun W => BysAt w W (.slice (some ⟨w.heap.size, 0, none⟩) 0 (4 * n)) []) ⟨hown0, (Grow.refl _).alloc (Nat.le_refl _) _⟩ ?_
  clear hown0
  intro w1 h1
  have H1 := Lib.hid h1
  clear h1
  generalize Value.slice (some ⟨w.heap.size, 0, none⟩) 0 (4 * n) = v0 at *
  go_wp2_with fail
  go_loopw [3, 12] (fun v i wr => ∃ j : Nat, j ≤ n ∧ i = .int .i64 j ∧ BysAt w wr v (bytesE (l.take j))) (fun _ i _ => n - (intOf i).toNat)
  case atStart => exact ⟨0, by omega, rfl, by rw [List.take_zero]; exact H1.out⟩
  case round =>
    obtain ⟨j, hj, rfl, hN⟩ := hrel
    have HN := Lib.hid hN
    clear hN H1
    have hln := HS.out.2.2.1
    by_cases hlt : j < n
    · have hj1 : decide ((j : Int) < (n : Int)) = true := by simp; omega
      have b1 : (0 : Int) ≤ j := by omega
      have b2 : (j : Int) < n := by omega
      obtain ⟨g, o, rfl, hgl, hgc⟩ := HS.out.2.2.2 (by omega)
      have hcell := (HN.out.gro.cell (p := ⟨g, o + j, none⟩) hgl).trans (hgc j hlt)
      have Hsucc := Lib.hid (bytesE_take_succ l j (by omega))
      have hbl : (bytesE (l.take j)).length = 4 * j := by rw [bytesE_length, List.length_take]; omega
      have HB := Lib.hid hbl
      have hcc := Lib.hid HS.out.1
      clear hbl hln hgl hgc
      generalize l.getD j 0 = x at *
      generalize bytesE (l.take j) = b at *
      have t1 : IntKind.u8.wrap (x.toNat : Int) = ((UInt8.ofNat x.toNat).toNat : Int) := u8_of _
      have t2 : IntKind.u8.wrap ((x.toNat : Int) / 256) = ((UInt8.ofNat (x.toNat / 256)).toNat : Int) := byte_of x.toNat 256
      have t3 : IntKind.u8.wrap ((x.toNat : Int) / 65536) = ((UInt8.ofNat (x.toNat / 65536)).toNat : Int) := byte_of x.toNat 65536
      have t4 : IntKind.u8.wrap ((x.toNat : Int) / 16777216) = ((UInt8.ofNat (x.toNat / 16777216)).toNat : Int) := byte_of x.toNat 16777216
      unfold le4 at Hsucc
      generalize UInt8.ofNat x.toNat = x1 at *
      generalize UInt8.ofNat (x.toNat / 256) = x2 at *
      generalize UInt8.ofNat (x.toNat / 65536) = x3 at *
      generalize UInt8.ofNat (x.toNat / 16777216) = x4 at *
      have hown := HN.out.own
      have hbase := HN.out.gro.size
      go_wp2_with (at_builtin; refine wpList_append_new rfl (.tmp 16) (.tmp 28) 107 rfl w.heap.size 5 (.int .u8 0) 1 1 Tryd.underlying107 info_u8 rfl (by omega) _ b.length _ rfl hown 4 4 (bys [x1, x2, x3, x4]) rfl rfl (bys_one _) (by rw [HB.out]; simp only [maxLen]; omega) (by rw [HB.out]; omega) hbase ?_; intro v' w3 hown' hbel' _)
      go_roundw
      case rel =>
        refine ⟨j + 1, by omega, by go_num, ?_⟩
        rw [Hsucc.out]
        refine ⟨?_, HN.out.gro.trans hbel'⟩
        rw [List.length_append, bys_append]
        exact hown'
      case measure => simp [intOf]; omega
    · have e : j = n := by omega
      subst e
      rw [List.take_of_length_le (by omega)] at HN
      have hcv := run_string_of wr 107 9 5 Tryd.underlying107 Tryd.underlying5 Tryd.underlying9 (Sl.of_own HN.out.own)
      go_wp2_with fail
      go_ret
      exact ⟨rfl, HN.out.gro⟩
theorem le4_take_succ (n k : Nat) (hk : k < 4) : (le4 n).take (k + 1) = (le4 n).take k ++ [UInt8.ofNat (n / 256 ^ k)] := by
  have hc : k = 0 ∨ k = 1 ∨ k = 2 ∨ k = 3 := by omega
  rcases hc with rfl | rfl | rfl | rfl <;> simp [le4]
theorem u8_mod (m : Nat) : UInt8.ofNat (m % 256) = UInt8.ofNat m := by
  rw [← UInt8.toNat_inj, UInt8.toNat_ofNat', UInt8.toNat_ofNat']; omega
set_option maxRecDepth 100000 in
set_option maxHeartbeats 1000000 in
theorem rbytes_c (l : List UInt32) (A : Option Addr) (n c : Nat) (w : World) (hm : n ≤ 1000000) (hs : SlU w A n c l) :
    Calls Tryd.prog 66 #[.slice A n c] w fun e w' => e = .returned (.string ⟨(bytesE l).toArray⟩) ∧ Grow w w' := by
  have HS := Lib.hid hs
  clear hs
  have hmk := fun W => run_make_const (P := Tryd.prog) 107 5 _ 1 1 Tryd.underlying107 info_u8 0 (4 * n) (by omega) (by omega) (by omega) W
  simp only [Int.natCast_mul, Int.cast_ofNat_Int, Nat.mul_one] at hmk
  go_enter Tryd.func66, Tryd.ntmps66
  go_upto_region 2 with (fail)
  clear hmk
  have hown0 : (w.alloc (.cells (madeCells #[Value.int .u8 0] (4 * n)) 5)).ownsRow w.heap.size 5 1 (.slice (some ⟨w.heap.size, 0, none⟩) 0 (4 * n)) 0 [] :=
    World.ownsRow_made w _ (4 * n) (Nat.le_refl _) (by simp [maxLen]; omega) (by simp [madeCells])
  refine wp_gen (fun W => BysAt w W (.slice (some ⟨w.heap.size, 0, none⟩) 0 (4 * n)) []) ⟨hown0, (Grow.refl _).alloc (Nat.le_refl _) _⟩ ?_
  clear hown0
  intro w1 h1
  have H1 := Lib.hid h1
  clear h1
  generalize Value.slice (some ⟨w.heap.size, 0, none⟩) 0 (4 * n) = v0 at *
  go_wp2_with fail
  go_loopw [3, 4, 5, 6] (fun v i _ _ wr => ∃ j : Nat, j ≤ n ∧ i = .int .i64 j ∧ BysAt w wr v (bytesE (l.take j))) (fun _ i _ _ _ => n - (intOf i).toNat)
  case atStart => exact ⟨0, by omega, rfl, by rw [List.take_zero]; exact H1.out⟩
  case round =>
    obtain ⟨j, hj, rfl, hN⟩ := hrel
    have HN := Lib.hid hN
    clear hN H1
    have hln := HS.out.2.2.1
    by_cases hlt : j < n
    · have hj1 : decide ((j : Int) < (n : Int)) = true := by simp; omega
      have b1 : (0 : Int) ≤ j := by omega
      have b2 : (j : Int) < n := by omega
      obtain ⟨g, o, rfl, hgl, hgc⟩ := HS.out.2.2.2 (by omega)
      have hcell := (HN.out.gro.cell (p := ⟨g, o + j, none⟩) hgl).trans (hgc j hlt)
      have Hsucc := Lib.hid (bytesE_take_succ l j (by omega))
      have hbl : (bytesE (l.take j)).length = 4 * j := by rw [bytesE_length, List.length_take]; omega
      have HB := Lib.hid hbl
      have hcc := Lib.hid HS.out.1
      clear hbl hln hgl hgc
      generalize l.getD j 0 = x at *
      generalize bytesE (l.take j) = b at *
      go_wp2_with fail
      clear hcell hj1
      obtain ⟨wo, hwo⟩ : ∃ wo : World, wo = wr := ⟨_, rfl⟩
      subst hwo
      go_loopw [3, 5, 6] (fun v m i wr => ∃ k : Nat, k ≤ 4 ∧ i = .int .i64 k ∧ m = .int .u32 ((x.toNat / 256 ^ k : Nat) : Int) ∧ BysAt w wr v (b ++ (le4 x.toNat).take k)) (fun _ _ i _ => 4 - (intOf i).toNat)
      case atStart => exact ⟨0, by omega, rfl, by simp, by rw [List.take_zero, List.append_nil]; exact HN.out⟩
      case round =>
        obtain ⟨k, hk, rfl, rfl, hM⟩ := hrel
        have HM := Lib.hid hM
        clear hM HN
        by_cases hlk : k < 4
        · have hj1 : decide ((k : Int) < 4) = true := by simp; omega
          have Hs2 := Lib.hid (le4_take_succ x.toNat k hlk)
          have Hpw := Lib.hid (show x.toNat / 256 ^ (k + 1) = x.toNat / 256 ^ k / 256 by rw [Nat.pow_succ, Nat.div_div_eq_div_mul])
          have hml : x.toNat / 256 ^ k < 4294967296 := Nat.lt_of_le_of_lt (Nat.div_le_self _ _) x.toNat_lt
          have hbl : (b ++ (le4 x.toNat).take k).length = 4 * j + k := by rw [List.length_append, HB.out, List.length_take]; simp [le4]; omega
          have HB2 := Lib.hid hbl
          clear hbl
          generalize hm2 : x.toNat / 256 ^ (k + 1) = m2 at *
          have Hm2 := Lib.hid hm2
          clear hm2
          generalize x.toNat / 256 ^ k = m at *
          generalize (le4 x.toNat).take k = p1 at *
          have f1 : (m : Int).tmod 256 = ((m % 256 : Nat) : Int) := by rw [Int.tmod_eq_emod_of_nonneg (by omega)]; omega
          have f2 : IntKind.u8.wrap ((m % 256 : Nat) : Int) = ((UInt8.ofNat m).toNat : Int) := by rw [u8_of, u8_mod]
          have f3 : (m : Int) / 256 = (m2 : Int) := by rw [Hpw.out]; omega
          generalize m % 256 = r at *
          generalize UInt8.ofNat m = y at *
          have hown := HM.out.own
          have hbase := HM.out.gro.size
          go_wp2_with (at_builtin; refine wpList_append_new rfl (.tmp 25) (.tmp 29) 107 rfl w.heap.size 5 (.int .u8 0) 1 1 Tryd.underlying107 info_u8 rfl (by omega) _ (b ++ p1).length _ rfl hown 1 1 (bys [y]) rfl rfl (bys_one _) (by rw [HB2.out]; simp only [maxLen]; omega) (by rw [HB2.out]; omega) hbase ?_; intro v' w3 hown' hbel' _)
          go_roundw
          case rel =>
            refine ⟨k + 1, by omega, by go_num, by rw [Hm2.out], ?_⟩
            rw [Hs2.out, ← List.append_assoc]
            refine ⟨?_, HM.out.gro.trans hbel'⟩
            rw [List.length_append, bys_append]
            exact hown'
          case measure => simp [intOf]; omega
        · have e : k = 4 := by omega
          subst e
          go_wp2_with fail
          go_roundw
          case rel => exact ⟨j + 1, by omega, by go_num, by rw [Hsucc.out]; exact HM.out⟩
          case measure => simp [intOf]; omega
    · have e : j = n := by omega
      subst e
      rw [List.take_of_length_le (by omega)] at HN
      have hcv := run_string_of wr 107 9 5 Tryd.underlying107 Tryd.underlying5 Tryd.underlying9 (Sl.of_own HN.out.own)
      go_wp2_with fail
      go_ret
      exact ⟨rfl, HN.out.gro⟩
end Go.Proofs.YtamllmoakgnjoaaDoor
