import Derived.Test.YtjokaennipmmaaaDoorKeyP
import Derived.Test.YtjokaennipmmaaaDoorBox2
/- Trees of one-time keys, of the program and of the document, walked over plain values. -/
namespace Go.Proofs.YtjokaennipmmaaaDoor
open Go.RowKit
set_option linter.unnecessarySimpa false
/-- Bytes laid behind others. -/
theorem bytesL_fill (l m r : List UInt8) (k : Nat) (h : k = l.length) : splice (bytesL ⟨(l ++ r).toArray⟩) (bytesL ⟨m.toArray⟩) k = bytesL ⟨(l ++ m ++ r.drop m.length).toArray⟩ := by
  subst h
  rw [bytesL_splice]
  congr 3
  simp
end Go.Proofs.YtjokaennipmmaaaDoor
/- The seed of a key, and the keys of a tree. -/
namespace Go.Proofs.YtjokaennipmmaaaDoor
open Go.RowKit
set_option linter.unnecessarySimpa false
theorem bytesL_leaf (s : ByteArray) : (bytesL s).all PV.leaf = true := by
  unfold bytesL
  rw [List.all_map]
  exact List.all_eq_true.2 fun _ _ => rfl
theorem bytesL_plain1 (s : ByteArray) : (bytesL s).all PV.plain1 = true := by
  unfold bytesL
  rw [List.all_map]
  exact List.all_eq_true.2 fun _ _ => rfl
theorem bytesL_dem (s : ByteArray) : (bytesL s).map PV.dem1 = bytesL s := by
  unfold bytesL
  rw [List.map_map]
  rfl
theorem strCells_len (s : ByteArray) : (strCells s).length = s.size := by simp [strCells]
theorem ge_f {k m : Nat} (h : k < m) : decide ((k : Int) ≥ (m : Int)) = false := decide_eq_false (by omega)
theorem ge_t {k m : Nat} (h : ¬ k < m) : decide ((k : Int) ≥ (m : Int)) = true := decide_eq_true (by omega)
theorem fill_eq (l r : List UInt8) (s : ByteArray) : splice (bytesL ⟨(l ++ r).toArray⟩) (strCells s).flatten (0 + l.length * 1) = bytesL ⟨(l ++ s.data.toList ++ r.drop s.size).toArray⟩ := by
  rw [strCells_flat, Nat.zero_add, Nat.mul_one]
  have e : s.data.toList.length = s.size := by simp
  have := bytesL_fill l s.data.toList r l.length rfl
  rw [e] at this
  exact this
theorem u32_small {i : Nat} (h : i < 4294967296) : PV.v (.int .u32 (IntKind.u32.wrap (i : Int))) = .v (u (UInt32.ofNat i)) := by
  have e : IntKind.u32.wrap (i : Int) = (i : Int) := by rw [IntKind.wrap_u32]; omega
  rw [e]
  unfold u
  rw [UInt32.toNat_ofNat', Nat.mod_eq_of_lt (by omega)]
theorem kseed_eq (seed : D) (i : Nat) : [] ++ [107] ++ bytesE seed.1 ++ bytesE [UInt32.ofNat i] ++ [] = kseedB seed i := by simp [kseedB]
theorem shl_pow (n : Nat) (h : n ≤ 4) : IntKind.i64.wrap (1 * 2 ^ (min (n : Int).toNat IntKind.i64.bits)) = ((2 ^ n : Nat) : Int) := by
  have : n = 0 ∨ n = 1 ∨ n = 2 ∨ n = 3 ∨ n = 4 := by omega
  rcases this with rfl | rfl | rfl | rfl | rfl <;> decide
theorem bytes_app (a b : List UInt32) : bytesE (a ++ b) = bytesE a ++ bytesE b := by
  induction a with
  | nil => rfl
  | cons x a ih => simp [bytesE] at ih ⊢; try rw [ih]
theorem rseed_eq (seed : D) (i : Nat) : (⟨#[107]⟩ : ByteArray) ++ ⟨(bytesE [seed.1.getD 0 0, seed.1.getD 1 0, seed.1.getD 2 0, seed.1.getD 3 0, UInt32.ofNat i]).toArray⟩ = (⟨(kseedB seed i).toArray⟩ : ByteArray) := by
  have e : [seed.1.getD 0 0, seed.1.getD 1 0, seed.1.getD 2 0, seed.1.getD 3 0, UInt32.ofNat i] = seed.1 ++ [UInt32.ofNat i] := by
    obtain ⟨l, hl⟩ := seed
    match l, hl with
    | [a, b, c, e], _ => rfl
  rw [e, bytes_app]
  apply ByteArray.ext
  rw [ByteArray.data_append]
  simp [kseedB]
set_option maxRecDepth 100000 in
theorem s_rseed (seed : D) (i : Nat) (hi : i ≤ 1000000) : Spec (Ctx.mk Tryd.prog globX (0 + 1) Places) 34 [.agg (dP seed), .v (.int .i64 (i : Int))] [] (.agg (dP (kseedE seed i))) [] := by
  have hbl : (bytesE [seed.1.getD 0 0, seed.1.getD 1 0, seed.1.getD 2 0, seed.1.getD 3 0, UInt32.ofNat i]).length = 20 := by rw [bytesE_length]; rfl
  refine spec_of_bodyL CX_mixed CX_gpk Tryd.func34 rfl 19 0 rfl rfl rfl rfl ?_
  refine go_ ?_
  rw [u32_small (i := i) (by omega)]
  with_reducible apply run_y
  exact want_
  · intro K hK
    refine ev_ ?_
    refine vcCall_plain (s_rbytes [seed.1.getD 0 0, seed.1.getD 1 0, seed.1.getD 2 0, seed.1.getD 3 0, UInt32.ofNat i] (by simp)) (by kernel_rfl) ?_
    refine ev_ ?_
    exact hK
  refine go_ ?_
  have hsz : (ByteArray.mk #[107]).size + (ByteArray.mk (bytesE [seed.1.getD 0 0, seed.1.getD 1 0, seed.1.getD 2 0, seed.1.getD 3 0, UInt32.ofNat i]).toArray).size ≤ 9223372036854775807 := by
    show 1 + (bytesE _).toArray.size ≤ _
    rw [List.size_toArray, hbl]; decide
  refine go_ ?_
  rw [rseed_eq seed i]
  with_reducible apply run_y
  exact want_
  · intro K hK
    refine ev_ ?_
    refine vcCall_plain (s_rof ⟨(kseedB seed i).toArray⟩ (by show (kseedB seed i).toArray.size ≤ 1000000; rw [List.size_toArray, kseedB_len]; decide)) (by kernel_rfl) ?_
    refine ev_ ?_
    exact hK
  refine go_ ?_
  refine ev_ ?_
  exact .mk (by rfl) trivial
set_option maxRecDepth 100000 in
theorem s_rkeys (seed : D) (n : Nat) (hn : n ≤ 4) : Spec (Ctx.mk Tryd.prog globX (0 + 1) Places) 31 [.agg (dP seed), .v (.int .i64 (n : Int))] [] (.sl .any (dsP (keysE seed (2 ^ n)))) [] := by
  have hp := pow4 hn
  refine spec_of_bodyL CX_mixed CX_gpk Tryd.func31 rfl 29 0 rfl rfl rfl rfl ?_
  refine go_ ?_
  refine c_loop (fun k q m h => ∃ j : Nat, j ≤ n ∧ k = n - j ∧ q = [.top, .v (.int .i64 (n : Int)), .ptr 1 0, .top, .top, .v (.int .i64 ((2 ^ j : Nat) : Int)), .v (.int .i64 (j : Int))] ++ List.replicate 22 .top ∧ m = 2 ∧ h = [(1, .cells (dP seed))])
    ⟨_, _, _, _, ?_, ?_, ⟨0, Nat.zero_le _, rfl, rfl, rfl, rfl⟩⟩ ?_
  · rfl
  · skip
    exact sub_
  · rintro k q m h hlen ⟨j, hj, rfl, rfl, rfl, rfl⟩
    clear hlen
    refine go_ ?_
    first | refine run_b rfl rfl rfl (fun h => ?_) (fun h => ?_) | refine c_cond rfl (fun h => ?_) (fun h => ?_)
    · have hj' : j < n := by have := of_decide_eq_true h; omega
      have hp1 := pow4 (show j + 1 ≤ 4 by omega)
      have hw1 : IntKind.i64.wrap ((j : Int) + 1) = ((j + 1 : Nat) : Int) := by rw [wrap64 (by omega) (by omega)]; omega
      have hw2 : IntKind.i64.wrap (((2 ^ j : Nat) : Int) * 2) = ((2 ^ (j + 1) : Nat) : Int) := by
        rw [Nat.pow_succ] at hp1 ⊢
        generalize 2 ^ j = y at *
        rw [wrap64 (by omega) (by omega)]; omega
      refine go_ ?_
      rw [hw2]
      refine go_ ?_
      rw [hw1]
      refine go_ ?_
      refine c_round ⟨_, _, _, _, ?_, ?_, ?_, ⟨j + 1, by omega, rfl, rfl, rfl, rfl⟩⟩
      · omega
      · rfl
      · skip
        exact sub_
    · have hj' : j = n := by have := of_decide_eq_false h; omega
      subst hj'
      clear h hj
      have hp0 : 0 < 2 ^ j := Nat.two_pow_pos j
      generalize 2 ^ j = y at *
      refine go_ ?_
      refine c_loop (fun k q m h => ∃ i : Nat, i ≤ y ∧ k = y - i ∧ ((i = 0 ∧ q = [.top, .top, .ptr 1 0, .top, .top, .v (.int .i64 (y : Int)), .top, .sl .full [], .v (.int .i64 (i : Int))] ++ List.replicate 20 .top ∧ m = 2 ∧ h = [(1, .cells (dP seed))]) ∨
          (0 < i ∧ q = [.top, .top, .ptr 1 0, .top, .top, .v (.int .i64 (y : Int)), .top, .sl (.own 2) (dsP (keysE seed i)), .v (.int .i64 (i : Int))] ++ List.replicate 20 .top ∧ m = 3 ∧ h = [(1, .cells (dP seed)), (2, .row (dsP (keysE seed i)).length 30)])))
        ⟨_, _, _, _, ?_, ?_, ⟨0, Nat.zero_le _, rfl, .inl ⟨rfl, rfl, rfl, rfl⟩⟩⟩ ?_
      · rfl
      · skip
        exact sub_
      · rintro k q m h hlen ⟨i, hi, rfl, ⟨rfl, rfl, rfl, rfl⟩ | ⟨hi0, rfl, rfl, rfl⟩⟩
        · clear hlen
          have hlt : decide (((0 : Nat) : Int) < (y : Int)) = true := decide_eq_true (by omega)
          refine go_ ?_
          with_reducible apply run_y
          exact want_
          · intro K hK
            refine ev_ ?_
            refine vcCall_plain (s_rseed seed 0 (by omega)) (by kernel_rfl) ?_
            refine ev_ ?_
            exact hK
          refine go_ ?_
          with_reducible apply run_y
          exact want_
          · intro K hK
            refine ev_ ?_
            refine vcCall_plain (s_rpublic (kseedE seed 0)) (by kernel_rfl) ?_
            refine ev_ ?_
            exact hK
          refine go_ ?_
          with_reducible apply run_y
          exact want_
          · intro K hK
            refine ev_ ?_
            refine ⟨dsP ([] ++ [publicE (kseedE seed 0)]), dsP_app [] [publicE (kseedE seed 0)], appOk_ds (l := []) (l' := [publicE (kseedE seed 0)]) rfl rfl rfl (by simp), ?_⟩
            conv => whnf
            refine Or.inl ?_
            refine ev_ ?_
            exact hK
          refine go_ ?_
          refine c_round ⟨_, _, _, _, ?_, ?_, ?_, ⟨1, by omega, rfl, .inr ⟨by omega, rfl, rfl, rfl⟩⟩⟩
          · omega
          · rfl
          · skip
            exact sub_
        · clear hlen
          refine go_ ?_
          first | refine run_b rfl rfl rfl (fun h => ?_) (fun h => ?_) | refine c_cond rfl (fun h => ?_) (fun h => ?_)
          · have hi' : i < y := by have := of_decide_eq_true h; omega
            have hw1 : IntKind.i64.wrap ((i : Int) + 1) = ((i + 1 : Nat) : Int) := by rw [wrap64 (by omega) (by omega)]; omega
            have hkl := keysE_len seed i
            refine go_ ?_
            with_reducible apply run_y
            exact want_
            · intro K hK
              refine ev_ ?_
              refine vcCall_plain (s_rseed seed i (by omega)) (by kernel_rfl) ?_
              refine ev_ ?_
              exact hK
            refine go_ ?_
            with_reducible apply run_y
            exact want_
            · intro K hK
              refine ev_ ?_
              refine vcCall_plain (s_rpublic (kseedE seed i)) (by kernel_rfl) ?_
              refine ev_ ?_
              exact hK
            refine go_ ?_
            with_reducible apply run_y
            exact want_
            · intro K hK
              refine ev_ ?_
              refine ⟨dsP (keysE seed i ++ [publicE (kseedE seed i)]), dsP_app (keysE seed i) ([publicE (kseedE seed i)]), appOk_ds (l := keysE seed i) (l' := [publicE (kseedE seed i)]) rfl rfl rfl (by simp; omega), ?_⟩
              refine ev_ ?_
              exact hK
            refine go_ ?_
            rw [hw1]
            refine go_ ?_
            refine c_round ⟨_, _, _, _, ?_, ?_, ?_, ⟨i + 1, by omega, rfl, .inr ⟨by omega, rfl, rfl, rfl⟩⟩⟩
            · omega
            · rfl
            · rw [keysE_succ]
              exact sub_
          · have hi' : i = y := by have := of_decide_eq_false h; omega
            subst hi'
            refine go_ ?_
            refine ev_ ?_
            exact .mk (by rfl) trivial
end Go.Proofs.YtjokaennipmmaaaDoor
/- Signers, as plain values, and what they do. -/
namespace Go.Proofs.YtjokaennipmmaaaDoor
open Go.RowKit
set_option linter.unnecessarySimpa false
/-- A signer: its seed, how high its tree is, which key is the next. -/
abbrev Sr := D × Int × Int
def srP (s : Sr) : List PV := [.v (u (s.1.1.getD 0 0)), .v (u (s.1.1.getD 1 0)), .v (u (s.1.1.getD 2 0)), .v (u (s.1.1.getD 3 0)), .v (.int .i64 s.2.1), .v (.int .i64 s.2.2)]
def srC (s : Sr) : Array Value := #[u (s.1.1.getD 0 0), u (s.1.1.getD 1 0), u (s.1.1.getD 2 0), u (s.1.1.getD 3 0), .int .i64 s.2.1, .int .i64 s.2.2]
theorem srP_flat (s : Sr) : (PV.agg (srP s)).flat = some (.agg (srC s)) := rfl
def zeroSr : Sr := (D.zero, 0, 0)
theorem srC_head (s : Sr) : (srC s).extract 0 4 = us s.1.1 := by
  obtain ⟨⟨l, hl⟩, h, n⟩ := s
  match l, hl with
  | [a, b, c, e], _ => rfl
def kuseI (s : Sr) (msg : D) : Sr × Sg × Int :=
  if 0 ≤ s.2.1 ∧ s.2.1 ≤ 4 then (if 0 ≤ s.2.2 ∧ s.2.2 < ((2 ^ s.2.1.toNat : Nat) : Int) then ((s.1, s.2.1, s.2.2 + 1), ksignE s.1 s.2.1.toNat s.2.2.toNat msg, 0) else (zeroSr, zeroSg, 9)) else (zeroSr, zeroSg, 2)
def knewI (seed : D) (h : Int) : Sr × Int := if 0 ≤ h ∧ h ≤ 4 then ((seed, h, 0), 0) else (zeroSr, 2)
end Go.Proofs.YtjokaennipmmaaaDoor
/- Keys of a tree, its public key, and its signatures: the program's and the document's. -/
namespace Go.Proofs.YtjokaennipmmaaaDoor
open Go.RowKit
set_option linter.unnecessarySimpa false
theorem keysE_le (seed : D) {n : Nat} (h : n ≤ 4) : (keysE seed (2 ^ n)).length ≤ 16 := by rw [keysE_len]; exact pow4 h
set_option maxRecDepth 100000 in
theorem s_rkpublic (seed : D) (h : Int) : Spec (Ctx.mk Tryd.prog globX (0 + 1) Places) 25 [.agg (dP seed), .v (.int .i64 h)] [] (.tup [.agg (dP (kpubI seed h).1), .v (.int .i64 (kpubI seed h).2)]) [] := by
  refine spec_of_bodyL CX_mixed CX_gpk Tryd.func25 rfl 17 0 rfl rfl rfl rfl ?_
  refine go_ ?_
  by_cases hh : 0 ≤ h ∧ h ≤ 4
  · obtain ⟨n, rfl⟩ := Int.eq_ofNat_of_zero_le hh.1
    have e1 : decide ((n : Int) < 0) = false := by simp
    have e2 : decide ((n : Int) > 4) = false := by simp; omega
    have e : kpubI seed (n : Int) = (kpubE seed n, 0) := if_pos hh
    rw [e]
    have hn := keysE_le seed (n := n) (by omega)
    refine go_ ?_
    with_reducible apply run_y
    exact want_
    · intro K hK
      refine ev_ ?_
      refine vcCall_plain (s_rkeys seed n (by omega)) (by kernel_rfl) ?_
      refine ev_ ?_
      exact hK
    refine go_ ?_
    with_reducible apply run_y
    exact want_
    · intro K hK
      refine ev_ ?_
      refine vcCall_plain (s_rroot (keysE seed (2 ^ n)) (by omega)) (by kernel_rfl) ?_
      refine ev_ ?_
      exact hK
    refine go_ ?_
    refine ev_ ?_
    exact .mk (by rfl) trivial
  · have e : kpubI seed h = (D.zero, 2) := if_neg hh
    rw [e]
    cases e1 : decide (h < 0)
    · have e1 := of_decide_eq_false e1
      have e2 : decide (h > 4) = true := by simp; omega
      refine go_ ?_
      refine ev_ ?_
      exact .mk (by rfl) trivial
    · skip
      refine go_ ?_
      refine ev_ ?_
      exact .mk (by rfl) trivial
end Go.Proofs.YtjokaennipmmaaaDoor
