import Derived.Test.YthmepecedjamcaaDoorJouR
/- The document's Read of a journal, walked over plain values. -/
namespace Go.Proofs.YthmepecedjamcaaDoor
open Go.RowKit
set_option linter.unnecessarySimpa false
theorem num64 (a b c d : UInt8) : IntKind.u64.wrap (IntKind.u64.wrap (IntKind.u64.wrap (IntKind.u64.wrap (a.toNat : Int) + IntKind.u64.wrap (256 * IntKind.u64.wrap (b.toNat : Int))) + IntKind.u64.wrap (65536 * IntKind.u64.wrap (c.toNat : Int))) + IntKind.u64.wrap (16777216 * IntKind.u64.wrap (d.toNat : Int))) = ((a.toNat + 256 * b.toNat + 65536 * c.toNat + 16777216 * d.toNat : Nat) : Int) := by
  have ha := a.toNat_lt; have hb := b.toNat_lt; have hc := c.toNat_lt; have hd := d.toNat_lt
  have w : ∀ {x : Int}, 0 ≤ x → x < 18446744073709551616 → IntKind.u64.wrap x = x := fun {x} h1 h2 => by
    show x % 18446744073709551616 = _
    rw [Int.emod_eq_of_lt h1 h2]
  rw [w (x := (a.toNat : Int)) (by omega) (by omega), w (x := (b.toNat : Int)) (by omega) (by omega), w (x := (c.toNat : Int)) (by omega) (by omega), w (x := (d.toNat : Int)) (by omega) (by omega)]
  rw [w (x := 256 * (b.toNat : Int)) (by omega) (by omega), w (x := 65536 * (c.toNat : Int)) (by omega) (by omega), w (x := 16777216 * (d.toNat : Int)) (by omega) (by omega)]
  rw [w (x := (a.toNat : Int) + 256 * (b.toNat : Int)) (by omega) (by omega), w (x := (a.toNat : Int) + 256 * (b.toNat : Int) + 65536 * (c.toNat : Int)) (by omega) (by omega), w (by omega) (by omega)]
  omega
theorem bsL_app (a b : List (List UInt8)) : bsL a ++ bsL b = bsL (a ++ b) := by simp [bsL]
theorem ssP_bsL_app (a : List (List UInt8)) (r : List UInt8) : ssP (bsL a) ++ ssP [bs r] = ssP (bsL (a ++ [r])) := by
  rw [ssP_app]; congr 1; simp [bsL]
theorem extract_at (l : List UInt8) (at_ i n : Nat) : (bs l).extract (at_ + i) (at_ + i + n) = bs (((l.drop at_).drop i).take n) := by
  rw [bs_extract, List.drop_drop, Nat.add_sub_cancel_left]
set_option maxRecDepth 100000 in
set_option maxHeartbeats 8000000 in
theorem s_rread (l : List UInt8) (hl : l.length ≤ 900000) : Spec (Ctx.mk Tryd.prog globX (0 + 1) Places) 27 [.v (.string (bs l))] [] (.tup [.sl .any (ssP (bsL (readE 1000 l).1)), .v (.int .i64 (((readE 1000 l).2 : Nat) : Int))]) [] := by
  have hsz := bs_size l
  refine spec_of_bodyL CX_mixed CX_gpk Tryd.func27 rfl 84 0 rfl rfl rfl rfl ?_
  refine go_ ?_
  refine c_loop (fun k q m h => ∃ (pre : List (List UInt8)) (at_ : Nat), pre.length ≤ 1000 ∧ at_ ≤ l.length ∧ k = 1000 - pre.length ∧ readE 1000 l = (pre ++ (readE (1000 - pre.length) (l.drop at_)).1, at_ + (readE (1000 - pre.length) (l.drop at_)).2) ∧
      ∃ κ, q = [.v (.string (bs l)), .top, .top, .v (.int .i64 0), .sl κ (ssP (bsL pre)), .v (.int .i64 (at_ : Int))] ++ List.replicate 78 .top ∧
      ((pre = [] ∧ κ = .full ∧ m = 1 ∧ h = []) ∨ (0 < pre.length ∧ κ = .own 1 ∧ m = 2 ∧ h = [(1, .row (ssP (bsL pre)).length 9)])))
    ⟨_, _, _, _, ?_, ?_, ⟨[], 0, Nat.zero_le _, Nat.zero_le _, rfl, by simp, .full, rfl, .inl ⟨rfl, rfl, rfl, rfl⟩⟩⟩ ?_
  · rfl
  · skip
    exact sub_
  · rintro k q m h hlen ⟨pre, at_, hp, hat, rfl, he, κ, rfl, hc⟩
    clear hlen
    rw [he]
    have w0 : IntKind.i64.wrap ((at_ : Int) + 20) = ((at_ + 20 : Nat) : Int) := by rw [wrap64 (by omega) (by omega)]; omega
    have w1 : IntKind.i64.wrap ((at_ : Int) + 1) = ((at_ + 1 : Nat) : Int) := by rw [wrap64 (by omega) (by omega)]; omega
    have w2 : IntKind.i64.wrap ((at_ : Int) + 2) = ((at_ + 2 : Nat) : Int) := by rw [wrap64 (by omega) (by omega)]; omega
    have w3 : IntKind.i64.wrap ((at_ : Int) + 3) = ((at_ + 3 : Nat) : Int) := by rw [wrap64 (by omega) (by omega)]; omega
    have w4 : IntKind.i64.wrap ((at_ : Int) + 4) = ((at_ + 4 : Nat) : Int) := by rw [wrap64 (by omega) (by omega)]; omega
    have hdl : (l.drop at_).length = l.length - at_ := List.length_drop
    refine go_ ?_
    cases g1 : decide (((ssP (bsL pre)).length : Int) < 1000)
    case false =>
      have h1 : pre.length = 1000 := by have := of_decide_eq_false g1; rw [ssP_len, bsL_len] at this; omega
      rw [show 1000 - pre.length = 0 by omega, show readE 0 (l.drop at_) = ([], 0) from rfl]
      simp only [List.append_nil, Nat.add_zero]
      refine go_ ?_
      refine ev_ ?_
      exact .mk (by rfl) trivial
    case true =>
      have h1 : pre.length < 1000 := by have := of_decide_eq_true g1; rw [ssP_len, bsL_len] at this; omega
      refine go_ ?_
      cases g2 : decide (IntKind.i64.wrap ((at_ : Int) + 20) ≤ ((bs l).size : Int))
      case false =>
        have h2 : ¬ at_ + 20 ≤ l.length := by have := of_decide_eq_false g2; rw [w0, hsz] at this; omega
        rw [readE_none (first_short (by omega))]
        simp only [List.append_nil, Nat.add_zero]
        refine go_ ?_
        refine ev_ ?_
        exact .mk (by rfl) trivial
      case true =>
        have h2 : at_ + 20 ≤ l.length := by have := of_decide_eq_true g2; rw [w0, hsz] at this; omega
        obtain ⟨a, b, c, d, h4, hn⟩ := four_of (s := l.drop at_) (by omega)
        have hi : ∀ i, i < 4 → (bs l)[at_ + i]? = [a, b, c, d][i]? := fun i hi => by
          rw [bs_get, ← h4, List.getElem?_take_of_lt hi, List.getElem?_drop]
        have i0 : (bs l)[at_]? = some a := hi 0 (by decide)
        have i1 : (bs l)[at_ + 1]? = some b := hi 1 (by decide)
        have i2 : (bs l)[at_ + 2]? = some c := hi 2 (by decide)
        have i3 : (bs l)[at_ + 3]? = some d := hi 3 (by decide)
        have hnl := numE_lt (l.drop at_)
        have c1 := num64 a b c d
        rw [← hn] at c1
        have c2 : IntKind.i64.wrap (((bs l).size : Int) - (at_ : Int)) = ((l.length - at_ : Nat) : Int) := by rw [hsz, wrap64 (by omega) (by omega)]; omega
        have c3 : IntKind.i64.wrap (((l.length - at_ : Nat) : Int) - 20) = ((l.length - at_ - 20 : Nat) : Int) := by rw [wrap64 (by omega) (by omega)]; omega
        have c4 : IntKind.u64.wrap (((l.length - at_ - 20 : Nat)) : Int) = ((l.length - at_ - 20 : Nat) : Int) := wrapu64 (by omega)
        have fo := first_of (s := l.drop at_) (by omega)
        have flg := first_long (s := l.drop at_)
        rw [hdl] at fo flg
        have x1 := extract_at l at_ 20 (numE (l.drop at_))
        have x2 := extract_at l at_ 4 16
        generalize hnn : numE (l.drop at_) = n at *
        clear hn hi h4
        refine go_ ?_
        with_reducible apply run_y
        exact want_
        · intro K hK
          refine ev_ ?_
          refine ⟨at_, a, rfl, i0, ?_⟩
          refine ev_ ?_
          exact hK
        refine go_ ?_
        rw [w1]
        with_reducible apply run_y
        exact want_
        · intro K hK
          refine ev_ ?_
          refine ⟨at_ + 1, b, rfl, i1, ?_⟩
          refine ev_ ?_
          exact hK
        refine go_ ?_
        rw [w2]
        with_reducible apply run_y
        exact want_
        · intro K hK
          refine ev_ ?_
          refine ⟨at_ + 2, c, rfl, i2, ?_⟩
          refine ev_ ?_
          exact hK
        refine go_ ?_
        rw [w3]
        with_reducible apply run_y
        exact want_
        · intro K hK
          refine ev_ ?_
          refine ⟨at_ + 3, d, rfl, i3, ?_⟩
          refine ev_ ?_
          exact hK
        refine go_ ?_
        rw [c1, c2, c3, c4]
        cases g3 : decide ((n : Int) > ((l.length - at_ - 20 : Nat) : Int))
        case true =>
          have h3 : l.length - at_ - 20 < n := by have := of_decide_eq_true g3; omega
          rw [readE_none (flg h3)]
          simp only [List.append_nil, Nat.add_zero]
          refine go_ ?_
          refine ev_ ?_
          exact .mk (by rfl) trivial
        case false =>
          have h3 : n ≤ l.length - at_ - 20 := by have := of_decide_eq_false g3; omega
          have c5 : IntKind.i64.wrap (n : Int) = (n : Int) := wrap64 (by omega) (by omega)
          have c6 : IntKind.i64.wrap (((at_ + 20 : Nat) : Int) + (n : Int)) = ((at_ + 20 + n : Nat) : Int) := by rw [wrap64 (by omega) (by omega)]; omega
          replace fo := fo h3
          have hrl : (((l.drop at_).drop 20).take n).length = n := by rw [List.length_take, List.length_drop, hdl]; omega
          generalize ((l.drop at_).drop 20).take n = r at *
          have ss := s_sum r (by omega)
          refine go_ ?_
          rw [w0, c5, c6]
          with_reducible apply run_y
          exact want_
          · intro K hK
            refine ev_ ?_
            refine ⟨at_ + 20, at_ + 20 + n, bs r, rfl, rfl, by omega, by rw [hsz]; omega, Tryd.underlying9, x1, ?_⟩
            refine ev_ ?_
            exact hK
          refine go_ ?_
          rw [w4, w0]
          with_reducible apply run_y
          exact want_
          · intro K hK
            refine ev_ ?_
            refine ⟨at_ + 4, at_ + 20, bs (((l.drop at_).drop 4).take 16), rfl, rfl, by omega, by rw [hsz]; omega, Tryd.underlying9, x2, ?_⟩
            refine ev_ ?_
            exact hK
          refine go_ ?_
          with_reducible apply run_y
          exact want_
          · intro K hK
            refine ev_ ?_
            refine vcCall_plain (ss) (by kernel_rfl) ?_
            refine ev_ ?_
            exact hK
          refine go_ ?_
          cases g4 : (!decide (bs (((l.drop at_).drop 4).take 16) = bs (recS r)))
          case true =>
            have h4 : ¬ ((l.drop at_).drop 4).take 16 = recS r := fun e => by rw [e] at g4; simp at g4
            rw [if_neg h4] at fo
            rw [readE_none fo]
            simp only [List.append_nil, Nat.add_zero]
            refine go_ ?_
            refine ev_ ?_
            exact .mk (by rfl) trivial
          case false =>
            have h4 : ((l.drop at_).drop 4).take 16 = recS r := by
              have : bs (((l.drop at_).drop 4).take 16) = bs (recS r) := by simpa using g4
              exact bs_inj.1 this
            rw [if_pos h4] at fo
            have hstep : readE (1000 - pre.length) (l.drop at_) = (r :: (readE (1000 - (pre ++ [r]).length) (l.drop (at_ + 20 + n))).1, 20 + n + (readE (1000 - (pre ++ [r]).length) (l.drop (at_ + 20 + n))).2) := by
              have e1 : 1000 - pre.length = (1000 - (pre ++ [r]).length) + 1 := by simp; omega
              rw [e1, readE_some fo, List.drop_drop, hrl, show at_ + (20 + n) = at_ + 20 + n by omega]
            have hfin : (pre ++ (readE (1000 - pre.length) (l.drop at_)).1, at_ + (readE (1000 - pre.length) (l.drop at_)).2) = ((pre ++ [r]) ++ (readE (1000 - (pre ++ [r]).length) (l.drop (at_ + 20 + n))).1, at_ + 20 + n + (readE (1000 - (pre ++ [r]).length) (l.drop (at_ + 20 + n))).2) := by
              rw [hstep]
              refine Prod.ext ?_ ?_
              · simp
              · show at_ + (20 + n + _) = at_ + 20 + n + _
                omega
            have hpl : (pre ++ [r]).length = pre.length + 1 := by simp
            rcases hc with ⟨rfl, rfl, rfl, rfl⟩ | ⟨hpos, rfl, rfl, rfl⟩
            · skip
              refine go_ ?_
              with_reducible apply run_y
              exact want_
              · intro K hK
                refine ev_ ?_
                refine ⟨ssP (bsL ([] ++ [r])), ssP_bsL_app [] r, appOk_ss (l := []) (l' := [bs r]) rfl rfl rfl (by simp), ?_⟩
                conv => whnf
                refine Or.inl ?_
                refine ev_ ?_
                exact hK
              refine go_ ?_
              rw [w0, c5, c6]
              refine go_ ?_
              refine c_round ⟨_, _, _, _, ?_, ?_, ?_, ⟨[] ++ [r], at_ + 20 + n, by simp, by omega, rfl, hfin, .own 1, rfl, .inr ⟨by simp, rfl, rfl, rfl⟩⟩⟩
              · simp
              · rfl
              · skip
                exact sub_
            · skip
              refine go_ ?_
              with_reducible apply run_y
              exact want_
              · intro K hK
                refine ev_ ?_
                refine ⟨ssP (bsL (pre ++ [r])), ssP_bsL_app pre r, appOk_ss (l := bsL pre) (l' := [bs r]) rfl rfl rfl (by rw [bsL_len]; simp; omega), ?_⟩
                refine ev_ ?_
                exact hK
              refine go_ ?_
              rw [w0, c5, c6]
              refine go_ ?_
              refine c_round ⟨_, _, _, _, ?_, ?_, ?_, ⟨pre ++ [r], at_ + 20 + n, by omega, by omega, rfl, hfin, .own 1, rfl, .inr ⟨by omega, rfl, rfl, rfl⟩⟩⟩
              · omega
              · rfl
              · skip
                exact sub_
end Go.Proofs.YthmepecedjamcaaDoor
