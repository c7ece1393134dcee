import Derived.Test.YthmepecedjamcaaDoorLJ2
/- The law JournalSpoilt: with any byte changed all records ahead of it are read as they were, and no more; or two unlike rows of bytes with one digest are shown. -/
namespace Go.Proofs.YthmepecedjamcaaDoor
open Go.RowKit
set_option linter.unnecessarySimpa false
theorem xor8 (a : UInt8) (c : Nat) (hc : c < 256) : IntKind.u8.wrap (BitVec.ofInt IntKind.u8.bits (a.toNat : Int) ^^^ BitVec.ofInt IntKind.u8.bits (c : Int)).toNat = ((a ^^^ UInt8.ofNat c).toNat : Int) := by
  have ha := a.toNat_lt
  have e1 : ((a ^^^ UInt8.ofNat c).toNat) = a.toNat ^^^ c := by
    rw [UInt8.toNat_xor, UInt8.toNat_ofNat', Nat.mod_eq_of_lt hc]
  have e2 : (BitVec.ofInt IntKind.u8.bits (a.toNat : Int) ^^^ BitVec.ofInt IntKind.u8.bits (c : Int)).toNat = a.toNat ^^^ c := by
    show (BitVec.ofInt 8 (a.toNat : Int) ^^^ BitVec.ofInt 8 (c : Int)).toNat = _
    rw [BitVec.toNat_xor, BitVec.ofInt_natCast, BitVec.ofInt_natCast, BitVec.toNat_ofNat, BitVec.toNat_ofNat, Nat.mod_eq_of_lt ha, Nat.mod_eq_of_lt hc]
  rw [e1, e2]
  have hlt : a.toNat ^^^ c < 256 := Nat.xor_lt_two_pow (n := 8) ha hc
  show ((a.toNat ^^^ c : Nat) : Int) % 256 = _
  exact Int.emod_eq_of_lt (by omega) (by omega)
theorem xor_ne (a : UInt8) (c : Nat) (hc : c < 256) (h0 : c ≠ 0) : a ^^^ UInt8.ofNat c ≠ a := fun e => by
  have h1 := congrArg UInt8.toNat e
  rw [UInt8.toNat_xor, UInt8.toNat_ofNat', Nat.mod_eq_of_lt hc] at h1
  have h2 : a.toNat ^^^ (a.toNat ^^^ c) = a.toNat ^^^ a.toNat := by rw [h1]
  rw [← Nat.xor_assoc, Nat.xor_self, Nat.zero_xor] at h2
  exact h0 h2
theorem bytesL_bs (l : List UInt8) : bytesL (bs l) = l.map fun b => .v (.int .u8 b.toNat) := by simp [bytesL, bs]
theorem bytesL_set (l : List UInt8) (k : Nat) (v : UInt8) (hk : k < l.length) : splice (bytesL (bs l)) [.v (.int .u8 (v.toNat : Int))] (0 + k * 1) = bytesL (bs (l.set k v)) := by
  have e : 0 + k * 1 = k := by omega
  rw [e, bytesL_bs, bytesL_bs, List.map_set]
  unfold splice
  rw [List.set_eq_take_append_cons_drop, if_pos (by simpa using hk)]
  simp
theorem bytesL_at (l : List UInt8) (k : Nat) (hk : k < l.length) : (bytesL (bs l)).getD (0 + k * 1) .top = .v (.int .u8 ((l.getD k 0).toNat : Int)) := by
  have e : 0 + k * 1 = k := by omega
  rw [e, bytesL_bs]
  simp [List.getD, hk]
theorem bytesL_lt (l : List UInt8) (k : Nat) (hk : k < l.length) : 0 + k * 1 < (bytesL (bs l)).length := by rw [bytesL_bs, List.length_map]; omega
theorem bytesL_bnd (s : ByteArray) (m : Nat) : (bytesL s).all (PV.bnd1 m) = true := by
  rw [List.all_eq_true]
  intro x hx
  obtain ⟨b, _, rfl⟩ := List.mem_map.1 hx
  rfl
theorem heapBnd_bytes (s : ByteArray) : heapBnd 2 [(1, .cells (bytesL s))] = true := by
  simp only [heapBnd, bytesL_bnd]; rfl
/-- A state with a box of bytes says less. -/
theorem sub_bytes {s : St} {l : List PV} {x : ByteArray} (h : slotsOk s 0 l ∧ heapOk s [(1, .cells (bytesL x))] ∧ (Nat.blt s.np 2 && l.all (PV.bnd 2)) = true) : Sub s l 2 [(1, .cells (bytesL x))] := by
  refine ⟨h.1, h.2.1, ?_⟩
  rw [h.2.2, heapBnd_bytes]; rfl
theorem sub2_ {s : St} {l : List PV} {h : List (Nat × HC)} {b : Bool} (k1 : slotsOk s 0 l) (k2 : heapOk s h) (k3 : b = true) : slotsOk s 0 l ∧ heapOk s h ∧ b = true := ⟨k1, k2, k3⟩
set_option maxRecDepth 100000 in
set_option maxHeartbeats 4000000 in
theorem s_journalSpoilt (l : List (List UInt8)) (at_ : Int) (c : Nat) (hc : c < 256) (hlen : l.length ≤ maxLen) (hs : ∀ r ∈ l, r.length ≤ 9223372036000000000) : Spec (Ctx.mk Tryd.prog globX (0 + 1) Places) 7 [.sl .any (ssP (bsL l)), .v (.int .i64 at_), .v (.int .u8 (c : Int))] [] (.v (.bool true)) [] := by
  have st := s_total l 3000 (by omega) hlen hs
  refine spec_of_bodyL CX_mixed CX_gpk Tryd.func7 rfl 133 0 rfl rfl rfl rfl ?_
  refine go_ ?_
  with_reducible apply run_y
  exact want_
  · intro K hK
    refine ev_ ?_
    refine vcCall_plain (s_awake41) (by kernel_rfl) ?_
    refine ev_ ?_
    exact hK
  refine go_ ?_
  cases g0 : decide (((ssP (bsL l)).length : Int) > 1000)
  case true =>
    refine go_ ?_
    refine ev_ ?_
    exact .mk (by rfl) trivial
  case false =>
    have hl : l.length ≤ 1000 := by have := of_decide_eq_false g0; rw [ssP_len, bsL_len] at this; omega
    refine go_ ?_
    with_reducible apply run_y
    exact want_
    · intro K hK
      refine ev_ ?_
      refine vcCall_plain (st) (by kernel_rfl) ?_
      refine ev_ ?_
      exact hK
    refine go_ ?_
    cases g1 : decide (((totalE 3000 l 0 : Nat) : Int) > 3000)
    case true =>
      refine go_ ?_
      refine ev_ ?_
      exact .mk (by rfl) trivial
    case false =>
      have h3 : totalE 3000 l 0 ≤ 3000 := by have := of_decide_eq_false g1; omega
      have hp := totalE_le h3
      rw [hp] at h3
      clear st hp g1
      refine go_ ?_
      cases g2 : ((c : Int) == 0)
      case true =>
        refine go_ ?_
        refine ev_ ?_
        exact .mk (by rfl) trivial
      case false =>
        have hc0 : c ≠ 0 := fun e => by subst e; simp at g2
        have ok := okL_of (l := l) (by omega)
        have p1 := s_put l hl (by omega)
        have hsz := bs_size (putB l)
        refine go_ ?_
        with_reducible apply run_y
        exact want_
        · intro K hK
          refine ev_ ?_
          refine vcCall_plain (p1) (by kernel_rfl) ?_
          refine ev_ ?_
          exact hK
        refine go_ ?_
        cases g3 : decide (at_ < 0)
        case true =>
          refine go_ ?_
          refine ev_ ?_
          exact .mk (vb_eq (by simp)) trivial
        case false =>
          obtain ⟨k, rfl⟩ := Int.eq_ofNat_of_zero_le (a := at_) (by have := of_decide_eq_false g3; omega)
          refine go_ ?_
          cases g4 : decide ((k : Int) ≥ (((bs (putB l)).size : Nat) : Int))
          case true =>
            refine go_ ?_
            refine ev_ ?_
            exact .mk (vb_eq (by simp)) trivial
          case false =>
            have hk : k < (putB l).length := by have := of_decide_eq_false g4; rw [hsz] at this; omega
            have hk2 : k < (bs (putB l)).size := by omega
            have hx := xor8 ((putB l).getD k 0) c hc
            have hset := bytesL_set (putB l) k ((putB l).getD k 0 ^^^ UInt8.ofNat c) hk
            have hat := bytesL_at (putB l) k hk
            have hlt := bytesL_lt (putB l) k hk
            refine go_ ?_
            with_reducible apply run_y
            exact want_
            · intro K hK
              conv => whnf
              refine And.intro (by kernel_rfl) ?_
              conv => whnf
              refine And.intro (by kernel_rfl) ?_
              conv => whnf
              refine And.intro (by rw [hsz]; simp only [maxLen]; omega) (Or.inr ?_)
              refine ev_ ?_
              exact hK
            refine go_ ?_
            with_reducible apply run_y
            exact want_
            · intro K hK
              refine ev_ ?_
              refine ⟨k, rfl, hk2, rfl, ?_⟩
              refine ev_ ?_
              exact hK
            refine go_ ?_
            with_reducible apply run_y
            exact want_
            · intro K hK
              refine ev_ ?_
              rw [hat]
              refine ev_ ?_
              exact hK
            refine go_ ?_
            rw [hx]
            with_reducible apply run_y
            exact want_
            · intro K hK
              refine ev_ ?_
              refine ⟨k, rfl, hk2, rfl, ?_⟩
              refine ev_ ?_
              exact hK
            refine go_ ?_
            rw [hset]
            have hv : (putB l)[k]? ≠ some ((putB l).getD k 0 ^^^ UInt8.ofNat c) := by
              rw [List.getElem?_eq_getElem hk]
              intro e
              injection e with e
              have e2 : (putB l).getD k 0 = (putB l)[k] := by rw [List.getD_eq_getElem?_getD, List.getElem?_eq_getElem hk]; rfl
              rw [e2] at e
              exact xor_ne _ c hc hc0 e.symm
            have hsp := read_spoilt l k 1000 _ ok hl hk hv
            generalize (putB l).getD k 0 ^^^ UInt8.ofNat c = v at *
            clear hx hset hat hlt hv g2 g3 g4
            have hLl : ((putB l).set k v).length = (putB l).length := by simp
            have s1 := s_read ((putB l).set k v) (by omega)
            have hdt : ((bytesL (bs ((putB l).set k v))).drop 0).take (bs (putB l)).size = bytesL (bs ((putB l).set k v)) := by
              rw [List.drop_zero, List.take_of_length_le]
              rw [bytesL_bs, List.length_map, hLl, hsz]; exact Nat.le_refl _
            have hsz2 : (bs ((putB l).set k v)).size = (bs (putB l)).size := by rw [bs_size, hsz]; exact hLl
            obtain ⟨-, -, pr3, t, pr4, -⟩ := put_read 1000 ((putB l).set k v)
            have pr5 := congrArg List.length pr4
            rw [List.length_append] at pr5
            generalize (putB l).set k v = L at *
            generalize readE 1000 L = r at *
            obtain ⟨ra, rn⟩ := r
            simp only at hsp s1 pr3 pr5
            refine c_loop (fun f q m h => ∃ j n : Nat, CutAt l k j n ∧ f = l.length - j ∧ q = [.sl .any (ssP (bsL l)), .v (.int .i64 (k : Int)), .top, .top, .top, .top, .v (.bool false), .v (.string (bs (putB l))), .top, .slb 1 0 (bs (putB l)).size 1, .v (.int .i64 (n : Int)), .v (.int .i64 (j : Int))] ++ List.replicate 121 .top ∧ m = 2 ∧ h = [(1, .cells (bytesL (bs L)))])
              ⟨_, _, _, _, ?_, ?_, ⟨0, 0, .zero l k, rfl, rfl, rfl, rfl⟩⟩ ?_
            · rfl
            · refine sub_bytes (sub2_ ?_ ?_ rfl) <;> conv => whnf
              all_goals (repeat (first | exact trivial | (refine And.intro (by ((conv => lhs; whnf) <;> first | with_reducible rfl | assumption | (refine val64 ?_ ?_ <;> omega) | rfl)) ?_; conv => whnf)))
            · rintro f q m h hlen2 ⟨j, n, hq, rfl, rfl, rfl, rfl⟩
              clear hlen2
              have hfit := hq.fit
              by_cases hj : j < l.length
              · have hat := bsL_at hj
                have h1 : j < (bsL l).length := by rw [bsL_len]; exact hj
                have g4 : decide ((j : Int) < ((ssP (bsL l)).length : Int)) = true := decide_eq_true (by rw [ssP_len, bsL_len]; omega)
                have hmem := putB_mem (getD_mem hj)
                have hnext := hq.next hj
                have hdone := hq.done
                have hw1 : IntKind.i64.wrap ((n : Int) + 20) = ((n + 20 : Nat) : Int) := by rw [wrap64 (by omega) (by omega)]; omega
                have hw2 : IntKind.i64.wrap (((n + 20 : Nat) : Int) + (((bs (l.getD j [])).size : Nat) : Int)) = ((n + 20 + (l.getD j []).length : Nat) : Int) := by rw [bs_size, wrap64 (by omega) (by omega)]; omega
                have hw3 : IntKind.i64.wrap ((j : Int) + 1) = ((j + 1 : Nat) : Int) := by rw [wrap64 (by omega) (by omega)]; omega
                refine go_ ?_
                rw [hat, hw1, hw2, g4]
                cases g5 : decide (((n + 20 + (l.getD j []).length : Nat) : Int) ≤ (k : Int))
                case true =>
                  have hle : n + 20 + (l.getD j []).length ≤ k := by have := of_decide_eq_true g5; omega
                  refine go_ ?_
                  rw [hat, hw1, hw2]
                  refine go_ ?_
                  rw [hw3]
                  refine c_round ⟨_, _, _, _, ?_, ?_, ?_, ⟨j + 1, n + 20 + (l.getD j []).length, hnext hle, rfl, rfl, rfl, rfl⟩⟩
                  · omega
                  · rfl
                  · refine sub_bytes (sub2_ ?_ ?_ rfl) <;> conv => whnf
                    all_goals (repeat (first | exact trivial | (refine And.intro (by ((conv => lhs; whnf) <;> first | with_reducible rfl | assumption | (refine val64 ?_ ?_ <;> omega) | rfl)) ?_; conv => whnf)))
                case false =>
                  have hle : ¬ n + 20 + (l.getD j []).length ≤ k := by have := of_decide_eq_false g5; omega
                  rw [hdone (fun _ => hle)] at hsp
                  obtain ⟨-, p1, p2, p3⟩ := hsp
                  simp only at p1 p2 p3
                  have j1 := s_jlist (ra.take j) (l.take j) (by rw [List.length_take]; omega)
                  rw [decide_eq_true p2] at j1
                  have htk := ssP_take (bsL l) j
                  rw [← bsL_take] at htk
                  have htk2 := ssP_take (bsL ra) j
                  rw [← bsL_take] at htk2
                  have g6 : decide (((ssP (bsL ra)).length : Int) < (j : Int)) = false := decide_eq_false (by rw [ssP_len, bsL_len]; omega)
                  refine go_ ?_
                  with_reducible apply run_y
                  exact want_
                  · intro K hK
                    refine ev_ ?_
                    refine ⟨bs L, hdt, hsz2, ?_⟩
                    refine ev_ ?_
                    exact hK
                  refine go_ ?_
                  with_reducible apply run_y
                  exact want_
                  · intro K hK
                    refine ev_ ?_
                    refine vcCall_plain (s1) (by kernel_rfl) ?_
                    refine ev_ ?_
                    exact hK
                  refine go_ ?_
                  rw [g6]
                  refine go_ ?_
                  with_reducible apply run_y
                  exact want_
                  · intro K hK
                    refine ev_ ?_
                    refine ⟨0, j, ssP (bsL (ra.take j)), rfl, rfl, Nat.zero_le _, by rw [ssP_len, bsL_len]; omega, ⟨_, _, rfl, rfl, .inl rfl⟩, htk2, ?_⟩
                    refine ev_ ?_
                    exact hK
                  refine go_ ?_
                  with_reducible apply run_y
                  exact want_
                  · intro K hK
                    refine ev_ ?_
                    refine ⟨0, j, ssP (bsL (l.take j)), rfl, rfl, Nat.zero_le _, by rw [ssP_len, bsL_len]; omega, ⟨_, _, rfl, rfl, .inl rfl⟩, htk, ?_⟩
                    refine ev_ ?_
                    exact hK
                  refine go_ ?_
                  with_reducible apply run_y
                  exact want_
                  · intro K hK
                    refine ev_ ?_
                    refine vcCall_plain (j1) (by kernel_rfl) ?_
                    refine ev_ ?_
                    exact hK
                  refine go_ ?_
                  rcases p3 with ⟨e1, e2⟩ | ⟨e1, e2, e3⟩
                  · have g7 : (((ssP (bsL ra)).length : Int) == (j : Int)) = true := by rw [ssP_len, bsL_len, e1]; simp
                    rw [g7]
                    refine go_ ?_
                    refine ev_ ?_
                    exact .mk (vb_eq (by simp [e2])) trivial
                  · have g7 : (((ssP (bsL ra)).length : Int) == (j : Int)) = false := by rw [ssP_len, bsL_len]; simp; omega
                    have hat2 := bsL_at (l := ra) e1
                    have h2 : j < (bsL ra).length := by rw [bsL_len]; exact e1
                    have hmem2 := putB_mem (getD_mem (l := ra) e1)
                    have f1 := s_framed (l.getD j []) (by omega)
                    have f2 := s_framed (ra.getD j []) (by omega)
                    have hfl : ∀ r : List UInt8, (recF r).length = 4 + r.length := fun r => by unfold recF; rw [List.length_append, recH_len]
                    have o1 := s_of (bs (recF (l.getD j []))) (by rw [bs_size, hfl]; omega)
                    have o2 := s_of (bs (recF (ra.getD j []))) (by rw [bs_size, hfl]; omega)
                    replace e3 : digE (bs (recF (l.getD j []))) = digE (bs (recF (ra.getD j []))) := e3
                    have g8 : (!decide (bs (recF (l.getD j [])) = bs (recF (ra.getD j [])))) = true := by
                      rw [decide_eq_false (fun e => e2 (bs_inj.1 e))]; rfl
                    rw [g7]
                    refine go_ ?_
                    rw [hat]
                    with_reducible apply run_y
                    exact want_
                    · intro K hK
                      refine ev_ ?_
                      refine vcCall_plain (f1) (by kernel_rfl) ?_
                      refine ev_ ?_
                      exact hK
                    refine go_ ?_
                    rw [hat2]
                    with_reducible apply run_y
                    exact want_
                    · intro K hK
                      refine ev_ ?_
                      refine vcCall_plain (f2) (by kernel_rfl) ?_
                      refine ev_ ?_
                      exact hK
                    refine go_ ?_
                    rw [g8]
                    refine go_ ?_
                    with_reducible apply run_y
                    exact want_
                    · intro K hK
                      refine ev_ ?_
                      refine vcCall_plain (o1) (by kernel_rfl) ?_
                      refine ev_ ?_
                      exact hK
                    refine go_ ?_
                    with_reducible apply run_y
                    exact want_
                    · intro K hK
                      refine ev_ ?_
                      refine vcCall_plain (o2) (by kernel_rfl) ?_
                      refine ev_ ?_
                      exact hK
                    refine go_ ?_
                    rw [e3]
                    refine ev_ ?_
                    exact .mk (vb_eq (by simp)) trivial
              · have hjl : j = l.length := by have := hq.le; omega
                subst hjl
                rw [hq.done (fun h => absurd h (Nat.lt_irrefl _))] at hsp
                exact absurd hsp.1 (Nat.lt_irrefl _)
theorem journalSpoilt_walk (q0 : PV) (v0 : Value) (q1 : PV) (v1 : Value) (q2 : PV) (v2 : Value) (w : World) (hP : Places w) (i0 : IsV (.sl .str) q0) (r0 : Rep (allOf w) q0 v0) (z0 : SzV q0) (i1 : IsV (.int .i64) q1) (r1 : Rep (allOf w) q1 v1) (i2 : IsV (.int .u8) q2) (r2 : Rep (allOf w) q2 v2) : Calls Tryd.prog 7 #[v0, v1, v2] w fun e w' => e = .returned (.bool true) ∧ Grow w w' := by
  obtain ⟨l, rfl, h1, h2⟩ := open_bsL i0 z0
  obtain ⟨at_, -, rfl⟩ := open_int i1
  obtain ⟨c, hc, rfl⟩ := i2
  have bx := bounds_u8 hc
  obtain ⟨c, rfl⟩ := Int.eq_ofNat_of_zero_le bx.1
  exact walk_of (s_journalSpoilt l at_ c (by omega) (by simp only [maxLen]; omega) (short_le h2)) hP (args3 r0 r1 r2)
end Go.Proofs.YthmepecedjamcaaDoor
