import Derived.Test.YtjbklilnhemhmaaDoorL04f
/- The law MerkleOther. -/
namespace Go.Proofs.YtjbklilnhemhmaaDoor
open Go.RowKit
set_option linter.unnecessarySimpa false
set_option maxRecDepth 100000 in
set_option maxHeartbeats 20000000 in
theorem s_merkleOther (l : List D) (x : Int) (leaf : D) : Spec (Ctx.mk Tryd.prog globX (0 + 1) Places) 4 [.sl .any (dsP l), .v (.int .i64 x), .agg (dP leaf)] [] (.v (.bool true)) [] := by
  refine spec_of_bodyL CX_mixed CX_gpk Tryd.func4 rfl 120 0 rfl rfl rfl rfl ?_
  refine go_ ?_
  with_reducible apply run_y
  exact want_
  · intro K hK
    refine ev_ ?_
    refine vcCall_plain (s_alive04) (by kernel_rfl) ?_
    refine ev_ ?_
    exact hK
  refine go_ ?_
  rw [dsP_len l]
  cases g1 : decide ((l.length : Int) > 30)
  case true =>
    refine go_ ?_
    refine ev_ ?_
    exact .mk (by rfl) trivial
  case false =>
    have hl : l.length ≤ 30 := by have := of_decide_eq_false g1; omega
    refine go_ ?_
    cases g2 : decide (x < 0)
    case true =>
      refine go_ ?_
      refine ev_ ?_
      exact .mk (by rfl) trivial
    case false =>
      refine go_ ?_
      rw [dsP_len l]
      cases g3 : decide (x ≥ (l.length : Int))
      case true =>
        refine go_ ?_
        refine ev_ ?_
        exact .mk (by rfl) trivial
      case false =>
        obtain ⟨i, rfl⟩ := Int.eq_ofNat_of_zero_le (show 0 ≤ x by have := of_decide_eq_false g2; omega)
        have hi : i < l.length := by have := of_decide_eq_false g3; omega
        have hpe : proveE l (i : Int) = (wayE noneE l i, 0) := if_pos ⟨by omega, by omega⟩
        have sp := s_proveI l (i : Int) (by omega)
        rw [hpe] at sp
        have hw := way_dep noneE l.length l i rfl
        have hw10 : (wayE noneE l i).length ≤ 10 := wayE_length_le noneE 10 l i (by omega)
        generalize wayE noneE l i = p at sp hw hw10
        refine go_ ?_
        with_reducible apply run_y
        exact want_
        · intro K hK
          refine ev_ ?_
          refine vcCall_plain (s_root l (by omega)) (by kernel_rfl) ?_
          refine ev_ ?_
          exact hK
        refine go_ ?_
        with_reducible apply run_y
        exact want_
        · intro K hK
          refine ev_ ?_
          refine vcCall_plain (sp) (by kernel_rfl) ?_
          refine ev_ ?_
          exact hK
        refine goto_ 9 ?_
        have hck : ∀ (f : D) (q : List D), checkE (rootE noneE l) (l.length : Int) (i : Int) f q = mcheckE (rootE noneE l) l.length i f q := fun f q => by rw [checkE_in (by omega) hi, mcheck_rcheck]
        have hck' : ∀ (f : D) (q : List D), checkE (rootE noneE l) ((dsP l).length : Int) (i : Int) f q = mcheckE (rootE noneE l) l.length i f q := fun f q => by rw [dsP_len]; exact hck f q
        have hmore : mcheckE (rootE noneE l) l.length i (l.getD i D.zero) (p ++ [leaf]) = false := mcheck_dep (by simp; omega)
        refine c_seq_cut (fun q m h => q = [.sl .any (dsP l), .v (.int .i64 (i : Int)), .top, .top, .top, .ptr 1 0, .top, .ptr 2 0, .sl .any (dsP p)] ++ List.replicate 111 .top ∧ m = 3 ∧ h = [(1, .cells (dP leaf)), (2, .cells (dP (rootE noneE l)))]) ?_ ?_
        · skip
          refine go_ ?_
          cases e1 : (!decide (leaf = l.getD i D.zero))
          case false =>
            refine go_ ?_
            refine c_cut ⟨_, _, _, ?_, ?_, rfl, rfl, rfl⟩
            · rfl
            · exact sub_
          case true =>
            have hne0 : leaf ≠ l.getD i D.zero := by simpa using e1
            refine go_ ?_
            with_reducible apply run_y
            exact want_
            · intro K hK
              refine ev_ ?_
              refine vcCall_plain (s_check (rootE noneE l) ((dsP l).length : Int) (i : Int) leaf p (by omega)) (by kernel_rfl) ?_
              refine ev_ ?_
              exact hK
            refine go_ ?_
            rw [hck']
            cases e2 : mcheckE (rootE noneE l) l.length i leaf p
            case false =>
              refine go_ ?_
              refine c_cut ⟨_, _, _, ?_, ?_, rfl, rfl, rfl⟩
              · rfl
              · exact sub_
            case true =>
              refine go_ ?_
              with_reducible apply run_y
              exact want_
              · intro K hK
                refine ev_ ?_
                refine vcCall_plain (s_rfooled l.length l i leaf p rfl (by omega) hi (by omega)) (by kernel_rfl) ?_
                refine ev_ ?_
                exact hK
              refine go_ ?_
              rw [fooled_check noneE hi hne0 e2]
              refine go_ ?_
              refine c_cut ⟨_, _, _, ?_, ?_, rfl, rfl, rfl⟩
              · rfl
              · exact sub_
        · rintro q m h hlen ⟨rfl, rfl, rfl⟩
          clear hlen
          refine go_ ?_
          with_reducible apply run_y
          exact want_
          · intro K hK
            refine ev_ ?_
            refine ⟨dsP p, dsP_app [] p, appOk_ds (l := []) (l' := p) rfl rfl rfl (by simp; omega), ?_⟩
            refine ev_ ?_
            exact hK
          refine go_ ?_
          with_reducible apply run_y
          exact want_
          · intro K hK
            refine ev_ ?_
            refine ⟨dsP (p ++ [leaf]), dsP_app p [leaf], appOk_ds (l := p) (l' := [leaf]) rfl rfl rfl (by simp; omega), ?_⟩
            refine ev_ ?_
            exact hK
          refine goto_ 12 ?_
          refine c_seq_cut (fun q m h => q = [.sl .any (dsP l), .v (.int .i64 (i : Int)), .top, .top, .top, .ptr 1 0, .top, .ptr 2 0, .sl .any (dsP p)] ++ List.replicate 111 .top ∧ m = 3 ∧ h = [(1, .cells (dP leaf)), (2, .cells (dP (rootE noneE l)))]) ?_ ?_
          · skip
            refine go_ ?_
            with_reducible apply run_y
            exact want_
            · intro K hK
              refine ev_ ?_
              refine vcCall_plain (s_check (rootE noneE l) ((dsP l).length : Int) (i : Int) (l.getD i D.zero) (p ++ [leaf]) (by simp; omega)) (by kernel_rfl) ?_
              refine ev_ ?_
              exact hK
            refine go_ ?_
            rw [hck', hmore]
            refine go_ ?_
            cases g4 : decide (((dsP p).length : Int) > 0)
            case true =>
              have hne : p ≠ [] := by rintro rfl; simp [dsP] at g4
              have hp0 : 0 < p.length := List.length_pos_iff.2 hne
              have hless : mcheckE (rootE noneE l) l.length i (l.getD i D.zero) p.dropLast = false := mcheck_dep (by rw [List.length_dropLast]; omega)
              refine go_ ?_
              rw [wrap_len hne (by omega)]
              with_reducible apply run_y
              exact want_
              · intro K hK
                refine ev_ ?_
                refine ⟨0, p.length - 1, dsP p.dropLast, rfl, rfl, Nat.zero_le _, by rw [dsP_len]; omega, ⟨_, _, rfl, rfl, .inl rfl⟩, dsP_init p, ?_⟩
                refine ev_ ?_
                exact hK
              refine go_ ?_
              with_reducible apply run_y
              exact want_
              · intro K hK
                refine ev_ ?_
                refine vcCall_plain (s_check (rootE noneE l) ((dsP l).length : Int) (i : Int) (l.getD i D.zero) p.dropLast (by rw [List.length_dropLast]; omega)) (by kernel_rfl) ?_
                refine ev_ ?_
                exact hK
              refine go_ ?_
              rw [hck', hless]
              refine go_ ?_
              refine c_cut ⟨_, _, _, ?_, ?_, rfl, rfl, rfl⟩
              · rfl
              · exact sub_
            case false =>
              refine go_ ?_
              refine c_cut ⟨_, _, _, ?_, ?_, rfl, rfl, rfl⟩
              · rfl
              · exact sub_
          · rintro q m h hlen ⟨rfl, rfl, rfl⟩
            clear hlen
            refine go_ ?_
            with_reducible apply run_y
            exact want_
            · intro K hK
              refine ev_ ?_
              refine vcCall_plain (s_check (rootE noneE l) ((dsP l).length : Int) (-1) (l.getD i D.zero) p (by omega)) (by kernel_rfl) ?_
              refine ev_ ?_
              exact hK
            refine go_ ?_
            rw [checkE_no (.inr (.inl (by omega)))]
            refine go_ ?_
            with_reducible apply run_y
            exact want_
            · intro K hK
              refine ev_ ?_
              refine vcCall_plain (s_check (rootE noneE l) ((dsP l).length : Int) ((dsP l).length : Int) (l.getD i D.zero) p (by omega)) (by kernel_rfl) ?_
              refine ev_ ?_
              exact hK
            refine go_ ?_
            rw [checkE_no (.inr (.inr (Int.le_refl _)))]
            refine ev_ ?_
            exact .mk (vb_eq (by simp)) trivial
theorem merkleOther_walk (A : Option Addr) (n c : Nat) (l : List D) (x : Int) (leaf : D) (w : World) (hP : Places w) (hs : SlD w A n c l) (_ : -9223372036854775808 ≤ x) (_ : x ≤ 9223372036854775807) :
    Calls Tryd.prog 4 #[.slice A n c, .int .i64 x, .agg (us leaf.1)] w fun e w' => e = .returned (.bool true) ∧ Grow w w' :=
  walk_of (s_merkleOther l x leaf) hP (args3 (sl_ds hs) (.v _) (rep_D _ leaf))
end Go.Proofs.YtjbklilnhemhmaaDoor
