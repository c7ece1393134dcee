import Derived.Test.YtddggjmfplohkaaDoorKb
/- The lexer's numbers, walked. -/
namespace Go.Proofs.YtddggjmfplohkaaDoor
open Go Go.RowKit
/-- A number from its digits, if it isn't too great. -/
def nuE : List UInt8 → Nat → Option Nat
  | [], n => some n
  | b :: l, n => if n * 10 + (b.toNat - 48) ≤ 4294967295 then nuE l (n * 10 + (b.toNat - 48)) else none
def numberOfE (s : ByteArray) : Tk × Int :=
  match nuE s.data.toList 0 with
  | some n => (⟨2, s, UInt32.ofNat n, 0⟩, 0)
  | none => (tk0, 2)
theorem drop_ba {s : ByteArray} {j : Nat} (h : j < s.size) : s.data.toList.drop j = s.data.getD j 0 :: s.data.toList.drop (j + 1) := by
  have h' : j < s.data.toList.length := by rw [Array.length_toList]; exact h
  rw [List.drop_eq_getElem_cons h', ba_get h']
set_option maxHeartbeats 4000000 in
set_option maxRecDepth 100000 in
theorem s_numberOf (s : ByteArray) (hsz : s.size ≤ 1000000000) (hd : ∀ i, i < s.size → digitE (s.data.getD i 0) = true) : Spec (Ctx.mk Tryd.prog globU 7 LaidU) 49 [.v (.string s)] [] (tkR (numberOfE s).1 (numberOfE s).2) [] := by
  refine spec_of_bodyL CX_mixed CU_gpk Tryd.func49 rfl 27 0 rfl rfl rfl rfl ?_
  refine go_ ?_
  refine c_loop (fun k q m h => ∃ j n : Nat, j ≤ s.size ∧ n ≤ 4294967295 ∧ nuE (s.data.toList.drop j) n = nuE s.data.toList 0 ∧ k = s.size - j ∧ q = [.v (.string s), .top, .ptr 1 0, .top, .v (.int .u64 (n : Int)), .v (.int .i64 (j : Int))] ++ List.replicate 21 .top ∧ m = 2 ∧ h = [(1, .cells (tkC tk0))])
    ⟨_, _, _, _, ?_, ?_, ⟨0, 0, Nat.zero_le _, Nat.zero_le _, rfl, rfl, rfl, rfl, rfl⟩⟩ ?_
  · rfl
  · skip
    exact sub_
  rintro k q m h hlen ⟨j, n, hj, hn, hout, rfl, rfl, rfl, rfl⟩
  clear hlen
  by_cases hjl : j < s.size
  · have g1 : decide ((j : Int) < ((s.size : Nat) : Int)) = true := decide_eq_true (by omega)
    have hw2 : IntKind.i64.wrap ((j : Int) + 1) = ((j + 1 : Nat) : Int) := by rw [wrap64 (by omega) (by omega)]; omega
    rw [drop_ba hjl, nuE] at hout
    have hb := hd j hjl
    have hat := ba_at hjl
    generalize s.data.getD j 0 = b at *
    unfold digitE at hb
    simp only [Bool.and_eq_true, decide_eq_true_eq] at hb
    have hw : IntKind.u64.wrap (IntKind.u64.wrap ((n : Int) * 10) + IntKind.u64.wrap (IntKind.u8.wrap ((b.toNat : Int) - 48))) = ((n * 10 + (b.toNat - 48) : Nat) : Int) := by
      rw [IntKind.wrap_u8, IntKind.wrap_u64, IntKind.wrap_u64, IntKind.wrap_u64]; omega
    by_cases hle : n * 10 + (b.toNat - 48) ≤ 4294967295
    · have g2 : decide (IntKind.u64.wrap (IntKind.u64.wrap ((n : Int) * 10) + IntKind.u64.wrap (IntKind.u8.wrap ((b.toNat : Int) - 48))) > 4294967295) = false := by rw [hw]; exact decide_eq_false (by omega)
      rw [if_pos hle] at hout
      refine go_ ?_
      with_reducible apply run_y
      exact want_
      · intro K hK
        refine ev_ ?_
        refine ⟨j, _, rfl, hat, ?_⟩
        refine ev_ ?_
        exact hK
      refine go_ ?_
      rw [hw2, hw]
      refine c_round ⟨_, _, _, _, ?_, ?_, ?_, ⟨j + 1, n * 10 + (b.toNat - 48), by omega, hle, hout, rfl, rfl, rfl, rfl⟩⟩
      · omega
      · rfl
      · skip
        exact sub_
    · have g2 : decide (IntKind.u64.wrap (IntKind.u64.wrap ((n : Int) * 10) + IntKind.u64.wrap (IntKind.u8.wrap ((b.toNat : Int) - 48))) > 4294967295) = true := by rw [hw]; exact decide_eq_true (by omega)
      rw [if_neg hle] at hout
      have e : numberOfE s = (tk0, 2) := by unfold numberOfE; rw [← hout]
      rw [e]
      refine go_ ?_
      with_reducible apply run_y
      exact want_
      · intro K hK
        refine ev_ ?_
        refine ⟨j, _, rfl, hat, ?_⟩
        refine ev_ ?_
        exact hK
      refine go_ ?_
      refine ev_ ?_
      exact .mk (by rfl) trivial
  · have g1 : decide ((j : Int) < ((s.size : Nat) : Int)) = false := decide_eq_false (by omega)
    have hj' : s.data.toList.drop j = [] := List.drop_eq_nil_of_le (by rw [Array.length_toList]; show s.size ≤ j; omega)
    rw [hj', nuE] at hout
    have e : numberOfE s = (⟨2, s, UInt32.ofNat n, 0⟩, 0) := by unfold numberOfE; rw [← hout]
    have hw : IntKind.u32.wrap ((n : Int)) = (((UInt32.ofNat n).toNat : Nat) : Int) := by
      rw [IntKind.wrap_u32, UInt32.toNat_ofNat']; omega
    rw [e]
    refine go_ ?_
    rw [hw]
    refine ev_ ?_
    exact .mk (by rfl) trivial
end Go.Proofs.YtddggjmfplohkaaDoor

/- The lexer's first token, walked. -/
namespace Go.Proofs.YtddggjmfplohkaaDoor
open Go Go.RowKit
def byteOfE (s : ByteArray) : Tk × Int :=
  if 3 ≤ s.size ∧ s.data.getD 2 0 = 39 ∧ 32 ≤ (s.data.getD 1 0).toNat ∧ (s.data.getD 1 0).toNat ≤ 126 ∧ (s.data.getD 1 0).toNat ≠ 39 ∧ (s.data.getD 1 0).toNat ≠ 92 then (⟨2, s.extract 0 3, UInt32.ofNat (s.data.getD 1 0).toNat, 0⟩, 0) else (tk0, 3)
theorem u8_eq (b : UInt8) (n : Nat) (hn : n < 256) : b = UInt8.ofNat n ↔ b.toNat = n := by
  rw [← UInt8.toNat_inj, UInt8.toNat_ofNat']
  constructor <;> intro h <;> omega
set_option maxHeartbeats 4000000 in
set_option maxRecDepth 100000 in
theorem s_byteOf (s : ByteArray) : Spec (Ctx.mk Tryd.prog globU 7 LaidU) 50 [.v (.string s)] [] (tkR (byteOfE s).1 (byteOfE s).2) [] := by
  refine spec_of_bodyL CX_mixed CU_gpk Tryd.func50 rfl 39 0 rfl rfl rfl rfl ?_
  by_cases h1 : s.size < 3
  · have g1 : decide (((s.size : Nat) : Int) < 3) = true := decide_eq_true (by omega)
    have e : byteOfE s = (tk0, 3) := by unfold byteOfE; rw [if_neg (by omega)]
    rw [e]
    refine go_ ?_
    refine ev_ ?_
    exact .mk (by rfl) trivial
  have g1 : decide (((s.size : Nat) : Int) < 3) = false := decide_eq_false (by omega)
  have a2 := ba_at (s := s) (j := 2) (by omega)
  have a1 := ba_at (s := s) (j := 1) (by omega)
  have he : byteOfE s = if 3 ≤ s.size ∧ s.data.getD 2 0 = 39 ∧ 32 ≤ (s.data.getD 1 0).toNat ∧ (s.data.getD 1 0).toNat ≤ 126 ∧ (s.data.getD 1 0).toNat ≠ 39 ∧ (s.data.getD 1 0).toNat ≠ 92 then (⟨2, s.extract 0 3, UInt32.ofNat (s.data.getD 1 0).toNat, 0⟩, 0) else (tk0, 3) := rfl
  generalize s.data.getD 2 0 = c at *
  generalize s.data.getD 1 0 = b at *
  have hc39 : (c = 39) ↔ c.toNat = 39 := u8_eq c 39 (by omega)
  refine go_ ?_
  with_reducible apply run_y
  exact want_
  · intro K hK
    refine ev_ ?_
    refine ⟨2, _, rfl, a2, ?_⟩
    refine ev_ ?_
    exact hK
  by_cases h2 : c.toNat = 39
  · have g2 : (bif decide (((s.size : Nat) : Int) < 3) then true else ((c.toNat : Int) != 39)) = false := by rw [g1]; simp; omega
    refine go_ ?_
    with_reducible apply run_y
    exact want_
    · intro K hK
      refine ev_ ?_
      refine ⟨1, _, rfl, a1, ?_⟩
      refine ev_ ?_
      exact hK
    by_cases h3 : b.toNat < 32
    · have g3 : (bif (bif decide (((s.size : Nat) : Int) < 3) then true else ((c.toNat : Int) != 39)) then true else decide ((b.toNat : Int) < 32)) = true := by rw [g2]; exact decide_eq_true (by omega)
      rw [he, if_neg (by omega)]
      refine go_ ?_
      refine ev_ ?_
      exact .mk (by rfl) trivial
    have g3 : (bif (bif decide (((s.size : Nat) : Int) < 3) then true else ((c.toNat : Int) != 39)) then true else decide ((b.toNat : Int) < 32)) = false := by rw [g2]; exact decide_eq_false (by omega)
    refine go_ ?_
    with_reducible apply run_y
    exact want_
    · intro K hK
      refine ev_ ?_
      refine ⟨1, _, rfl, a1, ?_⟩
      refine ev_ ?_
      exact hK
    by_cases h4 : b.toNat > 126
    · have g4 : (bif (bif (bif decide (((s.size : Nat) : Int) < 3) then true else ((c.toNat : Int) != 39)) then true else decide ((b.toNat : Int) < 32)) then true else decide ((b.toNat : Int) > 126)) = true := by rw [g3]; exact decide_eq_true (by omega)
      rw [he, if_neg (by omega)]
      refine go_ ?_
      refine ev_ ?_
      exact .mk (by rfl) trivial
    have g4 : (bif (bif (bif decide (((s.size : Nat) : Int) < 3) then true else ((c.toNat : Int) != 39)) then true else decide ((b.toNat : Int) < 32)) then true else decide ((b.toNat : Int) > 126)) = false := by rw [g3]; exact decide_eq_false (by omega)
    refine go_ ?_
    with_reducible apply run_y
    exact want_
    · intro K hK
      refine ev_ ?_
      refine ⟨1, _, rfl, a1, ?_⟩
      refine ev_ ?_
      exact hK
    by_cases h5 : b.toNat = 39
    · have g5 : (bif (bif (bif (bif decide (((s.size : Nat) : Int) < 3) then true else ((c.toNat : Int) != 39)) then true else decide ((b.toNat : Int) < 32)) then true else decide ((b.toNat : Int) > 126)) then true else ((b.toNat : Int) == 39)) = true := by rw [g4]; simp; omega
      rw [he, if_neg (by omega)]
      refine go_ ?_
      refine ev_ ?_
      exact .mk (by rfl) trivial
    have g5 : (bif (bif (bif (bif decide (((s.size : Nat) : Int) < 3) then true else ((c.toNat : Int) != 39)) then true else decide ((b.toNat : Int) < 32)) then true else decide ((b.toNat : Int) > 126)) then true else ((b.toNat : Int) == 39)) = false := by rw [g4]; simp; omega
    refine go_ ?_
    with_reducible apply run_y
    exact want_
    · intro K hK
      refine ev_ ?_
      refine ⟨1, _, rfl, a1, ?_⟩
      refine ev_ ?_
      exact hK
    by_cases h6 : b.toNat = 92
    · have g6 : (bif (bif (bif (bif (bif decide (((s.size : Nat) : Int) < 3) then true else ((c.toNat : Int) != 39)) then true else decide ((b.toNat : Int) < 32)) then true else decide ((b.toNat : Int) > 126)) then true else ((b.toNat : Int) == 39)) then true else ((b.toNat : Int) == 92)) = true := by rw [g5]; simp; omega
      rw [he, if_neg (by omega)]
      refine go_ ?_
      refine ev_ ?_
      exact .mk (by rfl) trivial
    have g6 : (bif (bif (bif (bif (bif decide (((s.size : Nat) : Int) < 3) then true else ((c.toNat : Int) != 39)) then true else decide ((b.toNat : Int) < 32)) then true else decide ((b.toNat : Int) > 126)) then true else ((b.toNat : Int) == 39)) then true else ((b.toNat : Int) == 92)) = false := by rw [g5]; simp; omega
    have hbl : b.toNat < 256 := b.toNat_lt
    have hw : IntKind.u32.wrap ((b.toNat : Int)) = (((UInt32.ofNat b.toNat).toNat : Nat) : Int) := by
      rw [IntKind.wrap_u32, UInt32.toNat_ofNat']; omega
    rw [he, if_pos ⟨by omega, hc39.2 h2, by omega, by omega, h5, h6⟩]
    refine go_ ?_
    with_reducible apply run_y
    exact want_
    · intro K hK
      refine ev_ ?_
      refine ⟨0, 3, s.extract 0 3, rfl, rfl, Nat.zero_le _, by omega, rfl, rfl, ?_⟩
      refine ev_ ?_
      exact hK
    refine go_ ?_
    with_reducible apply run_y
    exact want_
    · intro K hK
      refine ev_ ?_
      refine ⟨1, _, rfl, a1, ?_⟩
      refine ev_ ?_
      exact hK
    refine go_ ?_
    rw [hw]
    refine ev_ ?_
    exact .mk (by rfl) trivial
  · have g2 : (bif decide (((s.size : Nat) : Int) < 3) then true else ((c.toNat : Int) != 39)) = true := by rw [g1]; simp; omega
    rw [he, if_neg (fun h => h2 (hc39.1 h.2.1))]
    refine go_ ?_
    refine ev_ ?_
    exact .mk (by rfl) trivial
/-- The first of these that a text begins with. -/
def fdE (s : ByteArray) : List ByteArray → Option ByteArray
  | [] => none
  | g :: l => if hpE s g = true then some g else fdE s l
noncomputable def firstE (s : ByteArray) : Tk × Int :=
  if digitE (s.data.getD 0 0) = true then numberOfE (s.extract 0 (frN digitE s))
  else if (s.data.getD 0 0).toNat = 39 then byteOfE s
  else if letterE (s.data.getD 0 0) = true then nameOfE (s.extract 0 (frN inE s))
  else match fdE s tsignsL with
    | some g => (⟨4, g, 0, 0⟩, 0)
    | none => (tk0, 3)
theorem ext_toList (s : ByteArray) (n : Nat) : (s.extract 0 n).data.toList = s.data.toList.take n := by
  rw [ByteArray.data_extract, Array.toList_extract]
  simp [List.extract]
theorem take_tw {P : UInt8 → Bool} : ∀ (l : List UInt8), l.take (l.takeWhile P).length = l.takeWhile P
  | [] => rfl
  | x :: l => by
    by_cases h : P x = true
    · rw [List.takeWhile_cons, h]
      simp only [if_true, List.length_cons, List.take_succ_cons]
      rw [take_tw l]
    · rw [List.takeWhile_cons, if_neg h]; rfl
theorem fr_toList (P : UInt8 → Bool) (s : ByteArray) : (s.extract 0 (frN P s)).data.toList = s.data.toList.takeWhile P := by
  rw [ext_toList]; exact take_tw _
theorem mem_tw {P : UInt8 → Bool} : ∀ {l : List UInt8} {x : UInt8}, x ∈ l.takeWhile P → P x = true
  | [], x, h => by cases h
  | y :: l, x, h => by
    by_cases hy : P y = true
    · rw [List.takeWhile_cons, hy] at h
      simp only [if_true, List.mem_cons] at h
      rcases h with rfl | h
      · exact hy
      · exact mem_tw h
    · rw [List.takeWhile_cons, if_neg hy] at h
      cases h
theorem fr_all (P : UInt8 → Bool) (s : ByteArray) (i : Nat) (hi : i < (s.extract 0 (frN P s)).size) : P ((s.extract 0 (frN P s)).data.getD i 0) = true := by
  have hi' : i < (s.extract 0 (frN P s)).data.toList.length := by rw [Array.length_toList]; exact hi
  rw [← ba_get hi']
  have hm := List.getElem_mem hi'
  generalize (s.extract 0 (frN P s)).data.toList[i] = x at *
  rw [fr_toList] at hm
  exact mem_tw hm
theorem tsigns_at : ∀ j, j < 24 → ∃ r, tsignsP.drop j = .v (.string (tsignsL.getD j ByteArray.empty)) :: r := by
  intro j hj
  by_cases h : j < 12
  · match j, h with
    | 0, _ => exact ⟨_, rfl⟩
    | 1, _ => exact ⟨_, rfl⟩
    | 2, _ => exact ⟨_, rfl⟩
    | 3, _ => exact ⟨_, rfl⟩
    | 4, _ => exact ⟨_, rfl⟩
    | 5, _ => exact ⟨_, rfl⟩
    | 6, _ => exact ⟨_, rfl⟩
    | 7, _ => exact ⟨_, rfl⟩
    | 8, _ => exact ⟨_, rfl⟩
    | 9, _ => exact ⟨_, rfl⟩
    | 10, _ => exact ⟨_, rfl⟩
    | 11, _ => exact ⟨_, rfl⟩
  · obtain ⟨i, rfl⟩ : ∃ i, j = 12 + i := ⟨j - 12, by omega⟩
    have hi : i < 12 := by omega
    clear hj h
    match i, hi with
    | 0, _ => exact ⟨_, rfl⟩
    | 1, _ => exact ⟨_, rfl⟩
    | 2, _ => exact ⟨_, rfl⟩
    | 3, _ => exact ⟨_, rfl⟩
    | 4, _ => exact ⟨_, rfl⟩
    | 5, _ => exact ⟨_, rfl⟩
    | 6, _ => exact ⟨_, rfl⟩
    | 7, _ => exact ⟨_, rfl⟩
    | 8, _ => exact ⟨_, rfl⟩
    | 9, _ => exact ⟨_, rfl⟩
    | 10, _ => exact ⟨_, rfl⟩
    | 11, _ => exact ⟨_, rfl⟩
theorem u8q (b : UInt8) : ((b.toNat : Int) == 39) = decide (b.toNat = 39) := by
  rw [Bool.eq_iff_iff]; simp; omega
set_option maxHeartbeats 8000000 in
set_option maxRecDepth 100000 in
theorem s_first (s : ByteArray) (h0 : 0 < s.size) (hsz : s.size ≤ 1000000000) : Spec (Ctx.mk Tryd.prog globU 7 LaidU) 26 [.v (.string s)] [] (tkR (firstE s).1 (firstE s).2) [] := by
  have hfrd : (s.extract 0 (frN digitE s)).size ≤ 1000000000 := by
    have : (s.extract 0 (frN digitE s)).size = (s.data.toList.takeWhile digitE).length := by rw [← fr_toList]; exact Array.length_toList.symm
    rw [this]
    have h2 := (List.takeWhile_sublist (p := digitE) (l := s.data.toList)).length_le
    rw [Array.length_toList] at h2
    exact Nat.le_trans h2 hsz
  have hnum := s_numberOf (s.extract 0 (frN digitE s)) hfrd (fr_all digitE s)
  have hname := s_nameOf (s.extract 0 (frN inE s))
  have a0 := ba_at h0
  have he : firstE s = if digitE (s.data.getD 0 0) = true then numberOfE (s.extract 0 (frN digitE s))
    else if (s.data.getD 0 0).toNat = 39 then byteOfE s
    else if letterE (s.data.getD 0 0) = true then nameOfE (s.extract 0 (frN inE s))
    else match fdE s tsignsL with
      | some g => (⟨4, g, 0, 0⟩, 0)
      | none => (tk0, 3) := rfl
  generalize s.data.getD 0 0 = b at *
  refine spec_of_bodyL CX_mixed CU_gpk Tryd.func26 rfl 45 0 rfl rfl rfl rfl ?_
  refine go_ ?_
  with_reducible apply run_y
  exact want_
  · intro K hK
    refine ev_ ?_
    refine ⟨0, _, rfl, a0, ?_⟩
    refine ev_ ?_
    exact hK
  refine go_ ?_
  with_reducible apply run_y
  exact want_
  · intro K hK
    refine ev_ ?_
    refine vcCall_plain (s_digit b) (by kernel_rfl) ?_
    refine ev_ ?_
    exact hK
  refine go_ ?_
  by_cases h1 : digitE b = true
  · rw [he, if_pos h1]
    clear he hname
    generalize numberOfE (s.extract 0 (frN digitE s)) = z at *
    obtain ⟨⟨zk, zt, zn, za⟩, ze⟩ := z
    refine go_ ?_
    with_reducible apply run_y
    exact want_
    · intro K hK
      refine ev_ ?_
      refine vcCall_plain (s_frontD s hsz) (by kernel_rfl) ?_
      refine ev_ ?_
      exact hK
    refine go_ ?_
    with_reducible apply run_y
    exact want_
    · intro K hK
      refine ev_ ?_
      refine vcCall_plain (hnum) (by kernel_rfl) ?_
      refine ev_ ?_
      exact hK
    refine go_ ?_
    refine ev_ ?_
    exact .mk (by rfl) trivial
  have g1 : digitE b = false := by simpa using h1
  by_cases h2 : b.toNat = 39
  · have g2 : ((b.toNat : Int) == 39) = true := by rw [u8q]; exact decide_eq_true h2
    have hb := s_byteOf s
    rw [he, if_neg h1, if_pos h2]
    clear he hname hnum
    generalize byteOfE s = z at *
    obtain ⟨⟨zk, zt, zn, za⟩, ze⟩ := z
    refine go_ ?_
    with_reducible apply run_y
    exact want_
    · intro K hK
      refine ev_ ?_
      refine vcCall_plain (hb) (by kernel_rfl) ?_
      refine ev_ ?_
      exact hK
    refine go_ ?_
    refine ev_ ?_
    exact .mk (by rfl) trivial
  have g2 : ((b.toNat : Int) == 39) = false := by rw [u8q]; exact decide_eq_false h2
  refine go_ ?_
  with_reducible apply run_y
  exact want_
  · intro K hK
    refine ev_ ?_
    refine vcCall_plain (s_letter b) (by kernel_rfl) ?_
    refine ev_ ?_
    exact hK
  refine go_ ?_
  by_cases h3 : letterE b = true
  · rw [he, if_neg h1, if_neg h2, if_pos h3]
    clear he hnum
    generalize nameOfE (s.extract 0 (frN inE s)) = z at *
    obtain ⟨⟨zk, zt, zn, za⟩, ze⟩ := z
    refine go_ ?_
    with_reducible apply run_y
    exact want_
    · intro K hK
      refine ev_ ?_
      refine vcCall_plain (s_frontN s hsz) (by kernel_rfl) ?_
      refine ev_ ?_
      exact hK
    refine go_ ?_
    with_reducible apply run_y
    exact want_
    · intro K hK
      refine ev_ ?_
      refine vcCall_plain (hname) (by kernel_rfl) ?_
      refine ev_ ?_
      exact hK
    refine go_ ?_
    refine ev_ ?_
    exact .mk (by rfl) trivial
  have g3 : letterE b = false := by simpa using h3
  rw [if_neg h1, if_neg h2, if_neg h3] at he
  clear hnum hname
  refine go_ ?_
  refine c_loop (fun k q m h => ∃ j : Nat, j ≤ 24 ∧ fdE s (tsignsL.drop j) = fdE s tsignsL ∧ k = 24 - j ∧ q = [.v (.string s), .top, .ptr 1 0] ++ List.replicate 28 .top ++ [.v (.int .i64 (j : Int))] ++ List.replicate (45 - 32) .top ∧ m = 2 ∧ h = [(1, .cells (tkC tk0))])
    ⟨_, _, _, _, ?_, ?_, ⟨0, Nat.zero_le _, rfl, rfl, rfl, rfl, rfl⟩⟩ ?_
  · rfl
  · skip
    exact sub_
  rintro k q m h hlen ⟨j, hj, hout, rfl, rfl, rfl, rfl⟩
  clear hlen
  by_cases hj' : j < 24
  · have g4 : decide ((j : Int) < 24) = true := decide_eq_true (by omega)
    have hw2 : IntKind.i64.wrap ((j : Int) + 1) = ((j + 1 : Nat) : Int) := by rw [wrap64 (by omega) (by omega)]; omega
    obtain ⟨r, hat⟩ := tsigns_at j hj'
    have hjl : j < tsignsL.length := hj'
    have hd : tsignsL.drop j = tsignsL.getD j ByteArray.empty :: tsignsL.drop (j + 1) := by
      rw [List.drop_eq_getElem_cons hjl]; simp [List.getD, hjl]
    rw [hd, fdE] at hout
    generalize tsignsL.getD j ByteArray.empty = g at *
    have hhp := s_HP s g
    by_cases hh : hpE s g = true
    · rw [if_pos hh] at hout
      rw [he, ← hout]
      refine go_ ?_
      with_reducible apply run_y
      exact want_
      · intro K hK
        refine ev_ ?_
        refine ⟨j, rfl, hj', ?_⟩
        refine ev_ ?_
        exact hK
      conv =>
        pattern (occs := *) (List.drop (j * _) tsignsP)
        all_goals change List.drop (j * 1) tsignsP
      rw [Nat.mul_one, hat]
      refine go_ ?_
      with_reducible apply run_y
      exact want_
      · intro K hK
        refine ev_ ?_
        refine vcCall_plain (hhp) (by kernel_rfl) ?_
        refine ev_ ?_
        exact hK
      refine go_ ?_
      with_reducible apply run_y
      exact want_
      · intro K hK
        refine ev_ ?_
        refine ⟨j, rfl, hj', ?_⟩
        refine ev_ ?_
        exact hK
      conv =>
        pattern (occs := *) (List.drop (j * _) tsignsP)
        all_goals change List.drop (j * 1) tsignsP
      rw [Nat.mul_one, hat]
      refine go_ ?_
      refine ev_ ?_
      exact .mk (by rfl) trivial
    · rw [if_neg hh] at hout
      have g5 : hpE s g = false := by simpa using hh
      refine go_ ?_
      with_reducible apply run_y
      exact want_
      · intro K hK
        refine ev_ ?_
        refine ⟨j, rfl, hj', ?_⟩
        refine ev_ ?_
        exact hK
      conv =>
        pattern (occs := *) (List.drop (j * _) tsignsP)
        all_goals change List.drop (j * 1) tsignsP
      rw [Nat.mul_one, hat]
      refine go_ ?_
      with_reducible apply run_y
      exact want_
      · intro K hK
        refine ev_ ?_
        refine vcCall_plain (hhp) (by kernel_rfl) ?_
        refine ev_ ?_
        exact hK
      refine go_ ?_
      rw [hw2]
      refine c_round ⟨_, _, _, _, ?_, ?_, ?_, ⟨j + 1, by omega, hout, rfl, rfl, rfl, rfl⟩⟩
      · omega
      · rfl
      · skip
        exact sub_
  · have g4 : decide ((j : Int) < 24) = false := decide_eq_false (by omega)
    have hj2 : tsignsL.drop j = [] := List.drop_eq_nil_of_le (by show (24 : Nat) ≤ j; omega)
    rw [hj2, fdE] at hout
    rw [he, ← hout]
    refine go_ ?_
    refine ev_ ?_
    exact .mk (by rfl) trivial
end Go.Proofs.YtddggjmfplohkaaDoor
