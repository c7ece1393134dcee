import Derived.Test.YtjbklilnhemhmaaDoorKeyS
import Derived.Test.YtjbklilnhemhmaaDoorPubC
/- Links, of the program and of the document, walked over plain values. -/
namespace Go.Proofs.YtjbklilnhemhmaaDoor
open Go.RowKit
set_option linter.unnecessarySimpa false
def linkB (l : Lk) : List UInt8 := bytesE l.1.1 ++ bytesE l.2.1
def linkW : ByteArray := ⟨#[108, 105, 110, 107]⟩
def linkE (l : Lk) : D := pairE (digE ⟨(linkB l).toArray⟩) (digE linkW)
theorem linkB_len (l : Lk) : (linkB l).length = 32 := by
  unfold linkB
  rw [List.length_append, bytesE_length, bytesE_length, l.1.2, l.2.2]
theorem linkB_size (l : Lk) : (ByteArray.mk (linkB l).toArray).size ≤ 1000000 := by
  show (linkB l).toArray.size ≤ _
  rw [List.size_toArray, linkB_len]; decide
theorem linkB_app (l : Lk) : (⟨(bytesE l.1.1).toArray⟩ : ByteArray) ++ ⟨(bytesE l.2.1).toArray⟩ = ⟨(linkB l).toArray⟩ := by
  apply ByteArray.ext
  rw [ByteArray.data_append]
  simp [linkB]
set_option maxRecDepth 100000 in
theorem s_linkOf (l : Lk) : Spec (Ctx.mk Tryd.prog globX (0 + 1) Places) 32 [.agg (lkP l)] [] (.agg (dP (linkE l))) [] := by
  have hsz : (ByteArray.mk (bytesE l.1.1).toArray).size + (ByteArray.mk (bytesE l.2.1).toArray).size ≤ 9223372036854775807 := by
    show (bytesE l.1.1).toArray.size + (bytesE l.2.1).toArray.size ≤ _
    rw [List.size_toArray, List.size_toArray, bytesE_length, bytesE_length, l.1.2, l.2.2]; decide
  refine spec_of_bodyL CX_mixed CX_gpk Tryd.func32 rfl 15 0 rfl rfl rfl rfl ?_
  refine go_ ?_
  with_reducible apply run_y
  exact want_
  · intro K hK
    refine ev_ ?_
    refine ⟨0, 4, rfl, rfl, Nat.zero_le _, Nat.le_refl _, by decide, ?_⟩
    refine ev_ ?_
    exact hK
  conv in (PV.slb 1 _ _ _) => change PV.slb 1 0 4 1
  refine go_ ?_
  with_reducible apply run_y
  exact want_
  · intro K hK
    refine ev_ ?_
    refine vcCall_frz1 (np := 0) (b := 1) (off := 0) (n' := 4) (sz := 1) (es := wsP l.1.1) (cs := lkP l) (args := [.slb 1 0 4 1]) (s_bytes l.1.1 (by rw [l.1.2]; decide)) (by decide) (by decide) rfl rfl (dP_fits 1 0 l.1 rfl) rfl rfl ?_
    refine ev_ ?_
    exact hK
  refine go_ ?_
  with_reducible apply run_y
  exact want_
  · intro K hK
    refine ev_ ?_
    refine ⟨0, 4, rfl, rfl, Nat.zero_le _, Nat.le_refl _, by decide, ?_⟩
    refine ev_ ?_
    exact hK
  refine go_ ?_
  with_reducible apply run_y
  exact want_
  · intro K hK
    refine ev_ ?_
    refine vcCall_ice1 (np := 0) (b := 1) (off := 4) (n' := 4) (sz := 1) (es := wsP l.2.1) (cs := (lkP l).map PV.dem1) (args := [.slb 1 4 4 1]) (s_bytes l.2.1 (by rw [l.2.2]; decide)) (by decide) (by decide) rfl (dP_fits 1 4 l.2 rfl) rfl rfl ?_
    refine ev_ ?_
    exact hK
  refine go_ ?_
  rw [linkB_app]
  refine go_ ?_
  with_reducible apply run_y
  exact want_
  · intro K hK
    refine ev_ ?_
    refine vcCall_plain (s_of ⟨(linkB l).toArray⟩ (linkB_size l)) (by kernel_rfl) ?_
    refine ev_ ?_
    exact hK
  refine go_ ?_
  with_reducible apply run_y
  exact want_
  · intro K hK
    refine ev_ ?_
    refine vcCall_plain (s_of linkW (by decide)) (by kernel_rfl) ?_
    refine ev_ ?_
    exact hK
  refine go_ ?_
  with_reducible apply run_y
  exact want_
  · intro K hK
    refine ev_ ?_
    refine vcCall_plain (s_pair (digE ⟨(linkB l).toArray⟩) (digE linkW)) (by kernel_rfl) ?_
    refine ev_ ?_
    exact hK
  refine go_ ?_
  refine ev_ ?_
  exact .mk (by rfl) trivial
theorem linkB_words (l : Lk) : bytesE [l.1.1.getD 0 0, l.1.1.getD 1 0, l.1.1.getD 2 0, l.1.1.getD 3 0, l.2.1.getD 0 0, l.2.1.getD 1 0, l.2.1.getD 2 0, l.2.1.getD 3 0] = linkB l := by
  obtain ⟨⟨a, ha⟩, ⟨b, hb⟩⟩ := l
  match a, ha, b, hb with
  | [a1, a2, a3, a4], _, [b1, b2, b3, b4], _ =>
    show bytesE ([a1, a2, a3, a4] ++ [b1, b2, b3, b4]) = _
    rw [bytes_app]; rfl
set_option maxRecDepth 100000 in
theorem s_rlinkBytes (l : Lk) : Spec (Ctx.mk Tryd.prog globX (0 + 1) Places) 71 [.agg (lkP l)] [] (.v (.string ⟨(linkB l).toArray⟩)) [] := by
  rw [← linkB_words l]
  refine spec_of_bodyL CX_mixed CX_gpk Tryd.func71 rfl 27 0 rfl rfl rfl rfl ?_
  refine go_ ?_
  with_reducible apply run_y
  exact want_
  · intro K hK
    refine ev_ ?_
    refine vcCall_plain (s_rbytes [l.1.1.getD 0 0, l.1.1.getD 1 0, l.1.1.getD 2 0, l.1.1.getD 3 0, l.2.1.getD 0 0, l.2.1.getD 1 0, l.2.1.getD 2 0, l.2.1.getD 3 0] (by simp)) (by kernel_rfl) ?_
    refine ev_ ?_
    exact hK
  refine go_ ?_
  refine ev_ ?_
  exact .mk (by rfl) trivial
set_option maxRecDepth 100000 in
theorem s_rlinkOf (l : Lk) : Spec (Ctx.mk Tryd.prog globX (0 + 1) Places) 33 [.agg (lkP l)] [] (.agg (dP (linkE l))) [] := by
  refine spec_of_bodyL CX_mixed CX_gpk Tryd.func33 rfl 8 0 rfl rfl rfl rfl ?_
  refine go_ ?_
  with_reducible apply run_y
  exact want_
  · intro K hK
    refine ev_ ?_
    refine vcCall_plain (s_rlinkBytes l) (by kernel_rfl) ?_
    refine ev_ ?_
    exact hK
  refine go_ ?_
  with_reducible apply run_y
  exact want_
  · intro K hK
    refine ev_ ?_
    refine vcCall_plain (s_rof ⟨(linkB l).toArray⟩ (linkB_size l)) (by kernel_rfl) ?_
    refine ev_ ?_
    exact hK
  refine go_ ?_
  with_reducible apply run_y
  exact want_
  · intro K hK
    refine ev_ ?_
    refine vcCall_plain (s_rof linkW (by decide)) (by kernel_rfl) ?_
    refine ev_ ?_
    exact hK
  refine go_ ?_
  with_reducible apply run_y
  exact want_
  · intro K hK
    refine ev_ ?_
    refine vcCall_plain (s_rpair (digE ⟨(linkB l).toArray⟩) (digE linkW)) (by kernel_rfl) ?_
    refine ev_ ?_
    exact hK
  refine go_ ?_
  refine ev_ ?_
  exact .mk (by rfl) trivial
def lcheckE (l : Lk) (s : Sd) : Bool := kcheckE s.1 (linkE l) s.2
set_option maxRecDepth 100000 in
theorem s_linkCheck (l : Lk) (s : Sd) (hs : s.2.2.2.length ≤ 1000000) : Spec (Ctx.mk Tryd.prog globX (0 + 1) Places) 34 [.agg (lkP l), .agg (sdP s)] [] (.v (.bool (lcheckE l s))) [] := by
  obtain ⟨b, i, one, path⟩ := s
  refine spec_of_bodyL CX_mixed CX_gpk Tryd.func34 rfl 12 0 rfl rfl rfl rfl ?_
  refine go_ ?_
  with_reducible apply run_y
  exact want_
  · intro K hK
    refine ev_ ?_
    refine vcCall_plain (s_linkOf l) (by kernel_rfl) ?_
    refine ev_ ?_
    exact hK
  refine go_ ?_
  with_reducible apply run_y
  exact want_
  · intro K hK
    refine ev_ ?_
    refine vcCall_plain (s_kcheck b (linkE l) (i, one, path) hs) (by kernel_rfl) ?_
    refine ev_ ?_
    exact hK
  refine go_ ?_
  refine ev_ ?_
  exact .mk (by rfl) trivial
set_option maxRecDepth 100000 in
theorem s_rlinkCheck (l : Lk) (s : Sd) (hs : s.2.2.2.length ≤ 1000000) : Spec (Ctx.mk Tryd.prog globX (0 + 1) Places) 35 [.agg (lkP l), .agg (sdP s)] [] (.v (.bool (lcheckE l s))) [] := by
  obtain ⟨b, i, one, path⟩ := s
  refine spec_of_bodyL CX_mixed CX_gpk Tryd.func35 rfl 12 0 rfl rfl rfl rfl ?_
  refine go_ ?_
  with_reducible apply run_y
  exact want_
  · intro K hK
    refine ev_ ?_
    refine vcCall_plain (s_rlinkOf l) (by kernel_rfl) ?_
    refine ev_ ?_
    exact hK
  refine go_ ?_
  with_reducible apply run_y
  exact want_
  · intro K hK
    refine ev_ ?_
    refine vcCall_plain (s_rkcheck b (linkE l) (i, one, path) hs) (by kernel_rfl) ?_
    refine ev_ ?_
    exact hK
  refine go_ ?_
  refine ev_ ?_
  exact .mk (by rfl) trivial
def ltwiceE (a : Lk) (s : Sd) (b : Lk) (t : Sd) : Bool := decide (s.1 = t.1) && (decide (a.1 = b.1) && (!decide (a.2 = b.2) && (lcheckE a s && lcheckE b t)))
set_option maxRecDepth 100000 in
theorem s_linkTwice (a : Lk) (s : Sd) (b : Lk) (t : Sd) (hs : s.2.2.2.length ≤ 1000000) (ht : t.2.2.2.length ≤ 1000000) : Spec (Ctx.mk Tryd.prog globX (0 + 1) Places) 36 [.agg (lkP a), .agg (sdP s), .agg (lkP b), .agg (sdP t)] [] (.v (.bool (ltwiceE a s b t))) [] := by
  have c1 := s_linkCheck a s hs
  have c2 := s_linkCheck b t ht
  unfold ltwiceE
  generalize lcheckE a s = x at *
  generalize lcheckE b t = y at *
  obtain ⟨sb, si, so, sp⟩ := s
  obtain ⟨tb, ti, tq, tp⟩ := t
  obtain ⟨a1, a2⟩ := a
  obtain ⟨b1, b2⟩ := b
  show Spec _ _ _ _ (.v (.bool (decide (sb = tb) && (decide (a1 = b1) && (!decide (a2 = b2) && (x && y)))))) _
  refine spec_of_bodyL CX_mixed CX_gpk Tryd.func36 rfl 38 0 rfl rfl rfl rfl ?_
  refine go_ ?_
  cases e1 : decide (sb = tb)
  · skip
    refine go_ ?_
    refine ev_ ?_
    exact .mk (vb_eq (by simp)) trivial
  refine go_ ?_
  cases e2 : decide (a1 = b1)
  · skip
    refine go_ ?_
    refine ev_ ?_
    exact .mk (vb_eq (by simp)) trivial
  refine go_ ?_
  cases e3 : (!decide (a2 = b2))
  · skip
    refine go_ ?_
    refine ev_ ?_
    exact .mk (vb_eq (by simp)) trivial
  refine go_ ?_
  cases x
  · skip
    with_reducible apply run_y
    exact want_
    · intro K hK
      refine ev_ ?_
      refine vcCall_plain (c1) (by kernel_rfl) ?_
      refine ev_ ?_
      exact hK
    refine go_ ?_
    refine ev_ ?_
    exact .mk (vb_eq (by simp)) trivial
  with_reducible apply run_y
  exact want_
  · intro K hK
    refine ev_ ?_
    refine vcCall_plain (c1) (by kernel_rfl) ?_
    refine ev_ ?_
    exact hK
  refine go_ ?_
  with_reducible apply run_y
  exact want_
  · intro K hK
    refine ev_ ?_
    refine vcCall_plain (c2) (by kernel_rfl) ?_
    refine ev_ ?_
    exact hK
  refine go_ ?_
  refine ev_ ?_
  exact .mk (vb_eq (by simp)) trivial
set_option maxRecDepth 100000 in
theorem s_rlinkTwice (a : Lk) (s : Sd) (b : Lk) (t : Sd) (hs : s.2.2.2.length ≤ 1000000) (ht : t.2.2.2.length ≤ 1000000) : Spec (Ctx.mk Tryd.prog globX (0 + 1) Places) 37 [.agg (lkP a), .agg (sdP s), .agg (lkP b), .agg (sdP t)] [] (.v (.bool (ltwiceE a s b t))) [] := by
  have c1 := s_rlinkCheck a s hs
  have c2 := s_rlinkCheck b t ht
  unfold ltwiceE
  generalize lcheckE a s = x at *
  generalize lcheckE b t = y at *
  obtain ⟨sb, si, so, sp⟩ := s
  obtain ⟨tb, ti, tq, tp⟩ := t
  obtain ⟨a1, a2⟩ := a
  obtain ⟨b1, b2⟩ := b
  show Spec _ _ _ _ (.v (.bool (decide (sb = tb) && (decide (a1 = b1) && (!decide (a2 = b2) && (x && y)))))) _
  refine spec_of_bodyL CX_mixed CX_gpk Tryd.func37 rfl 38 0 rfl rfl rfl rfl ?_
  refine go_ ?_
  cases e1 : decide (sb = tb)
  · skip
    refine go_ ?_
    refine ev_ ?_
    exact .mk (vb_eq (by simp)) trivial
  refine go_ ?_
  cases e2 : decide (a1 = b1)
  · skip
    refine go_ ?_
    refine ev_ ?_
    exact .mk (vb_eq (by simp)) trivial
  refine go_ ?_
  cases e3 : (!decide (a2 = b2))
  · skip
    refine go_ ?_
    refine ev_ ?_
    exact .mk (vb_eq (by simp)) trivial
  refine go_ ?_
  cases x
  · skip
    with_reducible apply run_y
    exact want_
    · intro K hK
      refine ev_ ?_
      refine vcCall_plain (c1) (by kernel_rfl) ?_
      refine ev_ ?_
      exact hK
    refine go_ ?_
    refine ev_ ?_
    exact .mk (vb_eq (by simp)) trivial
  with_reducible apply run_y
  exact want_
  · intro K hK
    refine ev_ ?_
    refine vcCall_plain (c1) (by kernel_rfl) ?_
    refine ev_ ?_
    exact hK
  refine go_ ?_
  with_reducible apply run_y
  exact want_
  · intro K hK
    refine ev_ ?_
    refine vcCall_plain (c2) (by kernel_rfl) ?_
    refine ev_ ?_
    exact hK
  refine go_ ?_
  refine ev_ ?_
  exact .mk (vb_eq (by simp)) trivial
def sayE (seed : D) (h i : Nat) (l : Lk) : Sd := (kpubE seed h, ksignE seed h i (linkE l))
set_option maxRecDepth 100000 in
theorem s_rsay (seed : D) (h i : Nat) (l : Lk) (hh : h ≤ 4) (hi : i < 2 ^ h) : Spec (Ctx.mk Tryd.prog globX (0 + 1) Places) 38 [.agg (dP seed), .v (.int .i64 (h : Int)), .v (.int .i64 (i : Int)), .agg (lkP l)] [] (.agg (sdP (sayE seed h i l))) [] := by
  have hh' : 0 ≤ (h : Int) ∧ (h : Int) ≤ 4 := by omega
  have q1 := s_rkpublic_ok (seed := seed) hh'
  have q2 := s_rksign_ok (seed := seed) (msg := linkE l) (i := (i : Int)) hh' ⟨by omega, by rw [Int.toNat_natCast]; exact Int.ofNat_lt.2 hi⟩
  rw [Int.toNat_natCast] at q1
  rw [Int.toNat_natCast, Int.toNat_natCast] at q2
  unfold sayE
  generalize kpubE seed h = pub at *
  generalize ksignE seed h i (linkE l) = sg at *
  obtain ⟨j, one, path⟩ := sg
  refine spec_of_bodyL CX_mixed CX_gpk Tryd.func38 rfl 31 0 rfl rfl rfl rfl ?_
  refine go_ ?_
  with_reducible apply run_y
  exact want_
  · intro K hK
    refine ev_ ?_
    refine vcCall_plain (q1) (by kernel_rfl) ?_
    refine ev_ ?_
    exact hK
  refine go_ ?_
  with_reducible apply run_y
  exact want_
  · intro K hK
    refine ev_ ?_
    refine vcCall_plain (s_rlinkOf l) (by kernel_rfl) ?_
    refine ev_ ?_
    exact hK
  refine go_ ?_
  with_reducible apply run_y
  exact want_
  · intro K hK
    refine ev_ ?_
    refine vcCall_plain (q2) (by kernel_rfl) ?_
    refine ev_ ?_
    exact hK
  refine go_ ?_
  refine ev_ ?_
  exact .mk (by rfl) trivial
set_option maxRecDepth 100000 in
theorem s_short (s : Sd) : Spec (Ctx.mk Tryd.prog globX (0 + 1) Places) 31 [.agg (sdP s)] [] (.v (.bool (decide (s.2.2.1.length ≤ 40 ∧ s.2.2.2.length ≤ 6)))) [] := by
  obtain ⟨b, i, one, path⟩ := s
  have hd : decide (one.length ≤ 40 ∧ path.length ≤ 6) = (decide (((dsP one).length : Int) ≤ 40) && decide (((dsP path).length : Int) ≤ 6)) := by
    rw [dsP_len, dsP_len, Bool.eq_iff_iff]; simp; omega
  show Spec _ _ _ _ (.v (.bool (decide (one.length ≤ 40 ∧ path.length ≤ 6)))) _
  rw [hd]
  refine spec_of_bodyL CX_mixed CX_gpk Tryd.func31 rfl 15 0 rfl rfl rfl rfl ?_
  refine go_ ?_
  cases e1 : decide (((dsP one).length : Int) ≤ 40)
  · skip
    refine go_ ?_
    refine ev_ ?_
    exact .mk (vb_eq (by simp)) trivial
  refine go_ ?_
  refine ev_ ?_
  exact .mk (vb_eq (by simp)) trivial
end Go.Proofs.YtjbklilnhemhmaaDoor
