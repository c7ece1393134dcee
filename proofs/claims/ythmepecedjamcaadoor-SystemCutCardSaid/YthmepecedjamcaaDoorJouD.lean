import Derived.Test.YthmepecedjamcaaDoorJouB
import Derived.RangeFuncWrites
import Derived.RangeFuncLeaves
import Derived.RangeFuncBox
import Derived.OwnWalkIn
import Derived.TacticsInMore
import Derived.LoopNIn
import Derived.LoopIn
/- journal.Read: a range over the records of a row of bytes. -/
namespace Go.Proofs.YthmepecedjamcaaDoor
open Go.RowKit
attribute [local go_sem] Oper.semAt_some
theorem calls_pair {f : FuncId} {ars : List PV} {x y : Value} {vs : Array Value} {w : World} (h : Spec (Ctx.mk Tryd.prog globX (0 + 1) Places) f ars [] (.tup [.v x, .v y]) []) (hP : Places w) (ha : RepC (allOf w) ars vs) : Calls Tryd.prog f vs w fun e w' => e = .returned (.tuple #[x, y]) ∧ Grow w w' := by
  refine (h w (fun g _ => g < w.heap.size) (fun _ => none) vs hP hP.1 (fun g => rep_glob w hP g) ha (fun j hj => by simp at hj) (fun _ _ h => h) (fun _ _ _ h => (by cases h)) (fun _ _ h => (by cases h)) (fun _ _ _ h => (by cases h))).mono ?_
  rintro e w' ⟨z, F', rfl, h1, h2, h3, h4, h5, -, -, -, hr, -⟩
  refine ⟨?_, h1, h2, h3, h4, fun k hk => h5 k hk fun b hb => (by cases hb)⟩
  cases hr with
  | tup _ vs hl h =>
    obtain ⟨a, b, rfl, ha, hb⟩ := repC2 ⟨hl, h⟩
    rw [ha.v_eq, hb.v_eq]
theorem first_c (l : List UInt8) (hl : l.length ≤ 900000) (w : World) (hP : Places w) : Calls Tryd.prog 60 #[.string (bs l)] w fun e w' => e = .returned (.tuple #[.string (bs ((firstE l).getD [])), .bool (firstE l).isSome]) ∧ Grow w w' := calls_pair (s_first l hl) hP (args1 (.v _))
theorem own_not {W : World} {base : Nat} {e : TypeId} {size n k : Nat} {v : Value} {xs : List Value} (h : W.ownsRow base e size v n xs) (hk : k < base) : v.ownBlock ≠ some k := by
  rcases h.2 with ⟨rfl, _⟩ | ⟨g, cap, cur, rfl, hg, _⟩
  · simp [Value.ownBlock]
  · simp only [Value.ownBlock, ne_eq, Option.some.injEq]; omega
theorem own_low {W : World} {base base' : Nat} {e : TypeId} {size n : Nat} {v : Value} {xs : List Value} (h : W.ownsRow base e size v n xs) (hb : base' ≤ base) : W.ownsRow base' e size v n xs := by
  refine ⟨h.1, ?_⟩
  rcases h.2 with h | ⟨g, cap, cur, h1, hg, h2⟩
  · exact .inl h
  · exact .inr ⟨g, cap, cur, h1, Nat.le_trans hb hg, h2⟩
/-- What a range over the records of a row of bytes holds, ahead of a round. -/
structure RdAt (w0 : World) (kl kn ks D : Nat) (acc : List (List UInt8)) (m : Nat) (s : List UInt8) (W : World) : Prop where
  row : ∃ v, Boxed W kl 22 v ∧ W.ownsRow D 9 1 v acc.length ((bsL acc).map Value.string)
  num : Boxed W kn 3 (.int .i64 ((m : Nat) : Int))
  str : Boxed W ks 9 (.string (bs s))
  gro : Grow w0 W
theorem Boxed.grow {W W' : World} {k : Nat} {t : TypeId} {v : Value} (h : Boxed W k t v) (hg : Grow W W') : Boxed W' k t v := (hg.block k h.lt).trans h
theorem RdAt.grow {w0 : World} {kl kn ks D : Nat} {acc : List (List UInt8)} {m : Nat} {s : List UInt8} {W W' : World} (h : RdAt w0 kl kn ks D acc m s W) (hg : Grow W W') : RdAt w0 kl kn ks D acc m s W' := by
  obtain ⟨v, hv, ho⟩ := h.row
  exact ⟨⟨v, Boxed.grow hv hg, ownsRow_grow ho hg⟩, Boxed.grow h.num hg, Boxed.grow h.str hg, h.gro.tr hg⟩
theorem RdAt.set {w0 : World} {kl kn ks D : Nat} {acc : List (List UInt8)} {m : Nat} {s : List UInt8} {W : World} (h : RdAt w0 kl kn ks D acc m s W) (h1 : kl ≠ ks) (h2 : kn ≠ ks) (h3 : w0.heap.size ≤ ks) (h4 : ks < D) (s' : List UInt8) : RdAt w0 kl kn ks D acc m s' (W.setCell ⟨ks, 0, none⟩ (.string (bs s'))) := by
  obtain ⟨v, hv, ho⟩ := h.row
  have hg := grownBy_setCell' W ks (.string (bs s'))
  refine ⟨⟨v, hv.kept hg (by simpa using h1), ?_⟩, h.num.kept hg (by simpa using h2), h.str.set _, h.gro.setCell (p := ⟨ks, 0, none⟩) h3 _⟩
  exact ho.kept hg (.inr (own_not ho h4))
structure RdJ (w0 : World) (kl kn ks D : Nat) (rec : LoopState → Option Code → Loop) (st : LoopState) (pe : Option Code) (acc : List (List UInt8)) (m : Nat) (s : List UInt8) (W : World) : Prop where
  rd : RdAt w0 kl kn ks D acc m s W
  lop : W.heap[D + 1]? = some (.loop (rec st pe))
  dfr : W.heap[D]? = some (.deferred (some []))
theorem RdJ.grow {w0 : World} {kl kn ks D : Nat} {rec : LoopState → Option Code → Loop} {st : LoopState} {pe : Option Code} {acc : List (List UInt8)} {m : Nat} {s : List UInt8} {W W' : World} (h : RdJ w0 kl kn ks D rec st pe acc m s W) (hg : Grow W W') : RdJ w0 kl kn ks D rec st pe acc m s W' :=
  ⟨h.rd.grow hg, (hg.block _ (Array.getElem?_eq_some_iff.1 h.lop).1).trans h.lop, (hg.block _ (Array.getElem?_eq_some_iff.1 h.dfr).1).trans h.dfr⟩
theorem RdJ.set {w0 : World} {kl kn ks D : Nat} {rec : LoopState → Option Code → Loop} {st : LoopState} {pe : Option Code} {acc : List (List UInt8)} {m : Nat} {s : List UInt8} {W : World} (h : RdJ w0 kl kn ks D rec st pe acc m s W) (h1 : kl ≠ ks) (h2 : kn ≠ ks) (h3 : w0.heap.size ≤ ks) (h4 : ks < D) (s' : List UInt8) : RdJ w0 kl kn ks D rec st pe acc m s' (W.setCell ⟨ks, 0, none⟩ (.string (bs s'))) :=
  ⟨h.rd.set h1 h2 h3 h4 s', ((Below.heap_setCell _ _ _ _ (by show D + 1 ≠ ks; omega)).trans h.lop), ((Below.heap_setCell _ _ _ _ (by show D ≠ ks; omega)).trans h.dfr)⟩
noncomputable def strLeft (ks : Nat) (W : World) : Nat := match W.cell? ⟨ks, 0, none⟩ with
  | some (.string s) => s.size
  | _ => 0
theorem strLeft_eq {ks : Nat} {W : World} {t : TypeId} {s : List UInt8} (h : Boxed W ks t (.string (bs s))) : strLeft ks W = s.length := by
  unfold strLeft; rw [h.cell]; exact bs_size s
set_option maxRecDepth 100000 in
set_option maxHeartbeats 2000000 in
theorem recs_in (n : Nat) (hn : 1 ≤ n) (w0 : World) (hP : Places w0) (kl kn ks D : Nat) (rec : LoopState → Option Code → Loop) (h1 : kl ≠ ks) (h2 : kn ≠ ks) (h3 : w0.heap.size ≤ ks) (h4 : ks < D) (s0 : List UInt8) (hs0 : s0.length ≤ 900000)
    (hY : ∀ acc m r s W, RdJ w0 kl kn ks D rec .ready none acc m s W → acc.length < 1000 → m + 20 + r.length ≤ 900000 → YieldAt Fence.wide (n - 1) Tryd.prog (D + 1) #[.string (bs r)] W fun e W' =>
      (e = .returned (.bool true) ∧ acc.length + 1 ≠ 1000 ∧ RdJ w0 kl kn ks D rec .ready none (acc ++ [r]) (m + (20 + r.length)) s W') ∨ (e = .returned (.bool false) ∧ acc.length + 1 = 1000 ∧ RdJ w0 kl kn ks D rec .done (some (.exit 0)) (acc ++ [r]) (m + (20 + r.length)) s W'))
    (W : World) (hJ : RdJ w0 kl kn ks D rec .ready none [] 0 s0 W) :
    CallsIn Fence.wide n Tryd.prog 59 #[.func (.yield (D + 1)) #[] #[], .pointer (some ⟨ks, 0, none⟩)] W fun e W' => (∃ v, e = .returned v) ∧
      ∃ st pe s, RdJ w0 kl kn ks D rec st pe (readE 1000 s0).1 (readE 1000 s0).2 s W' ∧ ((st = .ready ∧ pe = none) ∨ (st = .done ∧ pe = some (.exit 0))) := by
  refine callsIn_of_wp Tryd.func59 rfl trivial ?_ rfl
  simp only [Tryd.ntmps59, List.size_toArray, List.length_cons, List.length_nil, Nat.reduceAdd, Nat.reduceSub, Array.replicate_succ, Array.replicate_zero, List.push_toArray, List.append_toArray, List.nil_append, List.cons_append]
  gi_wp2
  gi_loopw [3] (fun _ wr => ∃ (acc : List (List UInt8)) (m : Nat) (s : List UInt8), acc.length < 1000 ∧ readE 1000 s0 = (acc ++ (readE (1000 - acc.length) s).1, m + (readE (1000 - acc.length) s).2) ∧ m + s.length = s0.length ∧ RdJ w0 kl kn ks D rec .ready none acc m s wr) (fun _ wr => strLeft ks wr)
  case atStart => exact ⟨[], 0, s0, by simp, by simp, by omega, hJ⟩
  case round =>
    obtain ⟨acc, m, s, ha, hr, hm, hj⟩ := hrel
    have HJ := Lib.hid hj
    have hc := hj.rd.str.cell
    clear hj
    gi_wp2
    have hle : s.length ≤ 900000 := by omega
    refine ⟨trivial, callsIn_wide.2 ((first_c s hle wr (hP.grow HJ.out.rd.gro)).mono ?_)⟩
    rintro e w2 ⟨rfl, hg2⟩
    have H2 := Lib.hid (HJ.out.grow hg2)
    have Hst := Lib.hid (strLeft_eq HJ.out.rd.str)
    clear HJ hg2 hc
    cases hf : firstE s with
    | none =>
      rw [readE_none hf] at hr
      have Hr := Lib.hid hr
      clear hr
      simp only [Option.getD_none, Option.isSome_none]
      gi_wp2
      refine ⟨fun f h => (by cases h), ?_⟩
      gi_wp2
      refine bodyPost_ret (results_none rfl _ _ _) rfl ?_
      refine ⟨⟨_, rfl⟩, .ready, none, s, ?_, .inl ⟨rfl, rfl⟩⟩
      rw [Hr.out]
      simp only [List.append_nil, Nat.add_zero]
      exact H2.out
    | some r =>
      obtain ⟨hb, t, ht⟩ := first_spec hf
      have hlen := congrArg List.length ht
      rw [List.length_append, recB_len] at hlen
      have hk : 1000 - acc.length = (999 - acc.length) + 1 := by omega
      rw [hk, readE_some hf] at hr
      have Hr := Lib.hid hr
      clear hr hk
      simp only [Option.getD_some, Option.isSome_some]
      have hc := H2.out.rd.str.cell
      obtain ⟨fn, tmps, assign, body, hy, hR⟩ := hY acc m r s w2 H2.out ha (by omega)
      gi_wp2
      refine hR.mono ?_
      clear hR hc hy H2
      have Hlen := Lib.hid hlen
      have Hm := Lib.hid hm
      have Hle := Lib.hid hle
      have Hb := Lib.hid hb
      have Ha := Lib.hid ha
      have HT := Lib.hid ht
      clear hlen hm hle hb ha ht hf
      rintro e W3 (⟨rfl, hne, hJ3⟩ | ⟨rfl, heq, hJ3⟩)
      · have H3 := Lib.hid hJ3
        have Hne := Lib.hid hne
        have hc := hJ3.rd.str.cell
        have hfz := hJ3.rd.str.frozen
        clear hJ3 hne
        have hw1 : RowKit.wrap64 (20 + ((bs r).size : Int)) = ((20 + r.length : Nat) : Int) := by
          rw [bs_size]; have := Hlen.out; have := Hle.out; rw [w64 (by omega) (by omega)]; omega
        have hsz : (bs s).size = s.length := bs_size s
        have hle2 : 20 + r.length ≤ s.length := by have := Hlen.out; omega
        gi_wp2
        have hx : (bs s).extract (20 + r.length) s.length = bs (s.drop (20 + r.length)) := by
          rw [bs_extract, List.take_of_length_le (by simp)]
        have hj := H3.out.set h1 h2 h3 h4 (s.drop (20 + r.length))
        rw [hx]
        clear hx
        go_roundw
        case rel =>
          refine ⟨acc ++ [r], m + (20 + r.length), s.drop (20 + r.length), ?_, ?_, ?_, hj⟩
          · have := Ha.out; have := Hne.out; rw [List.length_append, List.length_singleton]; omega
          · rw [Hr.out, List.length_append, List.length_singleton]
            have : 1000 - (acc.length + 1) = 999 - acc.length := by omega
            rw [this]
            simp [Nat.add_assoc]
          · have := Hm.out; rw [List.length_drop]; omega
        case measure =>
          rw [strLeft_eq hj.rd.str, Hst.out, List.length_drop]; omega
      · have H3 := Lib.hid hJ3
        have Heq := Lib.hid heq
        clear hJ3 heq
        gi_wp2
        refine bodyPost_ret (results_none rfl _ _ _) rfl ?_
        refine ⟨⟨_, rfl⟩, .done, some (.exit 0), s, ?_, .inr ⟨rfl, rfl⟩⟩
        have h9 : 999 - acc.length = 0 := by have := Heq.out; omega
        have := Hr.out
        rw [h9] at this
        rw [this]
        exact H3.out
end Go.Proofs.YthmepecedjamcaaDoor
