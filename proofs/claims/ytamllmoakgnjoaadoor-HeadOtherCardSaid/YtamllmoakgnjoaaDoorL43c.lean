import Derived.Test.YtamllmoakgnjoaaDoorL43
import Derived.Test.YtamllmoakgnjoaaDoorClash
/- Strings that lie in a box, and the law HeadOther. -/
namespace Go.Proofs.YtamllmoakgnjoaaDoor
open Go.RowKit
set_option linter.unnecessarySimpa false
/-- Strings as cells. -/
def ssF (l : List ByteArray) : List PV := l.map fun s => .v (.string s)
theorem ssP_flat (l : List ByteArray) : (ssP l).flatten = ssF l := by
  unfold ssP ssF
  induction l with
  | nil => rfl
  | cons a l ih => simp [sP, ih]
theorem ssF_len (l : List ByteArray) : (ssF l).length = l.length := List.length_map _
theorem ssF_set (l : List ByteArray) (k : Nat) (a : ByteArray) (h : k < l.length) : splice (ssF l) [.v (.string a)] k = ssF (l.set k a) := by
  unfold splice ssF
  rw [List.length_singleton, ← List.map_take, ← List.map_drop, List.map_set, List.set_eq_take_append_cons_drop, if_pos (by simpa using h)]
  simp [List.map_take, List.map_drop]
theorem ssF_fits (b : Nat) (l : List ByteArray) : (Frz.mk b 0 l.length 1 (ssP l)).fits (ssF l) := by
  refine ⟨ssP_len l, ssP_wide l, ?_⟩
  show ((ssF l).drop 0).take (l.length * 1) = (ssP l).flatten
  rw [ssP_flat, List.drop_zero, Nat.mul_one, List.take_of_length_le (by rw [ssF_len]; exact Nat.le_refl _)]
theorem ssF_leaf (l : List ByteArray) : (ssF l).all PV.leaf = true := by
  unfold ssF
  simp [PV.leaf, Value.oneCell']
theorem ssF_dem (l : List ByteArray) : (ssF l).map PV.dem1 = ssF l := by
  unfold ssF
  rw [List.map_map]
  rfl
theorem ssF_fits2 (b : Nat) (l : List ByteArray) (n : Nat) (h : n = l.length) : (Frz.mk b 0 n 1 (ssP l)).fits ((ssF l).map PV.dem1) := by
  subst h
  rw [ssF_dem]
  exact ssF_fits b l
theorem ssF_fits1 (b : Nat) (l : List ByteArray) (n : Nat) (h : n = l.length) : (Frz.mk b 0 n 1 (ssP l)).fits (ssF l) := by subst h; exact ssF_fits b l
theorem eff_eq {K : Eff → Prop} {v : PV} {b : Nat} {cs cs' : List PV} {rd : List Nat} (h : cs = cs') (hk : K ⟨v, [(b, .cells cs')], rd⟩) : K ⟨v, [(b, .cells cs)], rd⟩ := h ▸ hk
/-- Of a store that lost nothing by another one's head of as many: the roots are the same. -/
theorem lost_same {l l' : List ByteArray} (h : l'.length = l.length) : lostE l' (l.length : Int) (rootE noneE (digsE l)) = if rootE noneE (digsE l') = rootE noneE (digsE l) then 0 else 8 := by
  unfold lostE
  rw [if_neg (by omega), if_neg (by omega), Int.toNat_natCast, List.take_of_length_le (by omega)]
set_option maxRecDepth 100000 in
set_option maxHeartbeats 4000000 in
theorem s_headOther (l : List ByteArray) (x : Int) (a : ByteArray) (hz : ∀ s ∈ l, s.size ≤ maxLen) (hx : 0 ≤ x) (hx' : x ≤ 255) : Spec (Ctx.mk Tryd.prog globX (0 + 1) Places) 9 [.agg [.sl .any (ssP l)], .v (.int .u8 x), .v (.string a)] [] (.v (.bool true)) [] := by
  refine spec_of_bodyL CX_mixed CX_gpk Tryd.func9 rfl 106 0 rfl rfl rfl rfl ?_
  refine go_ ?_
  with_reducible apply run_y
  exact want_
  · intro K hK
    refine ev_ ?_
    refine vcCall_plain (s_alive43) (by kernel_rfl) ?_
    refine ev_ ?_
    exact hK
  refine go_ ?_
  with_reducible apply run_y
  exact want_
  · intro K hK
    refine ev_ ?_
    refine vcCall_plain (s_few43 l hz) (by kernel_rfl) ?_
    refine ev_ ?_
    exact hK
  refine go_ ?_
  cases hb : (fewE l 20 300 && rightE l)
  case false =>
    refine go_ ?_
    refine ev_ ?_
    exact .mk (by rfl) trivial
  case true =>
    have hw := (Bool.and_eq_true_iff.1 hb).1
    have hl := (fewE_spec hw).1
    have hs := fewE_small hw (by omega)
    refine go_ ?_
    cases g1 : (((ssP l).length : Int) == 0)
    case true =>
      refine go_ ?_
      refine ev_ ?_
      exact .mk (by rfl) trivial
    case false =>
      have hpos : 0 < l.length := by
        rcases l with _ | ⟨b, l⟩
        · simp [ssP] at g1
        · simp
      refine go_ ?_
      cases g2 : decide ((a.size : Int) > 300)
      case true =>
        refine go_ ?_
        refine ev_ ?_
        exact .mk (by rfl) trivial
      case false =>
        have ha : a.size ≤ 300 := by have := of_decide_eq_false g2; omega
        refine go_ ?_
        with_reducible apply run_y
        exact want_
        · intro K hK
          refine ev_ ?_
          refine vcCall_plain (s_shead l (by omega) hs) (by kernel_rfl) ?_
          refine ev_ ?_
          exact hK
        refine go_ ?_
        obtain ⟨y, rfl⟩ := Int.eq_ofNat_of_zero_le hx
        have hi : y % l.length < l.length := Nat.mod_lt _ hpos
        have hw : (IntKind.i64.wrap (y : Int)).tmod ((ssP l).length : Int) = ((y % l.length : Nat) : Int) := by
          rw [wrap64 (by omega) (by omega), ssP_len, Int.tmod_eq_emod_of_nonneg hx]
          rfl
        generalize y % l.length = i at *
        with_reducible apply run_y
        exact want_
        · intro K hK
          refine ev_ ?_
          refine And.intro (by rw [ssP_len]; omega) ?_
          rw [hw]
          refine ev_ ?_
          exact hK
        refine go_ ?_
        with_reducible apply run_y
        exact want_
        · intro K hK
          refine ev_ ?_
          refine ⟨ssP l, ssP_app [] l, appOk_ss (l := []) (l' := l) rfl rfl rfl (by simp; omega), ?_⟩
          conv => whnf
          refine Or.inr ⟨rfl, by rw [ssP_len]; omega, ?_⟩
          rw [ssP_flat]
          refine ev_ ?_
          exact hK
        refine go_ ?_
        with_reducible apply run_y
        exact want_
        · intro K hK
          refine ev_ ?_
          refine ⟨i, rfl, by rw [ssP_len]; exact hi, rfl, ?_⟩
          refine ev_ ?_
          exact hK
        with_reducible apply run_y
        · exact want_
        · intro K hK
          conv => whnf
          refine And.intro (by decide) (And.intro rfl (And.intro (show Nat.ble (0 + i * 1 + 1) (ssF l).length = true from Nat.ble_eq_true_of_le (by rw [ssF_len]; omega)) (And.intro rfl ?_)))
          conv in (splice (ssF l) _ _) =>
            change splice (ssF l) [PV.v (Value.string a)] (0 + i * 1)
            rw [Nat.zero_add, Nat.mul_one, ssF_set l i a hi]
          refine ev_ ?_
          exact hK
        refine go_ ?_
        cases e1 : decide (a = l.getD i ByteArray.empty)
        case true =>
          refine go_ ?_
          refine ev_ ?_
          exact .mk (by rfl) trivial
        case false =>
          have hne : a ≠ l.getD i ByteArray.empty := of_decide_eq_false e1
          have hll : (l.set i a).length = l.length := List.length_set
          have hs2 : small (l.set i a) := fun s h => by
            rcases List.mem_or_eq_of_mem_set h with h | rfl
            · exact hs s h
            · omega
          generalize hl' : l.set i a = l' at hll hs2
          refine go_ ?_
          with_reducible apply run_y
          exact want_
          · intro K hK
            refine ev_ ?_
            refine vcCall_frz1 (np := 0) (b := 3) (off := 0) (n' := (ssP l).length) (sz := 1) (es := ssP l') (cs := ssF l') (args := [.agg [.slb 3 0 (ssP l).length 1]]) (s_right l' (by omega) hs2) (by decide) (by decide) rfl (ssF_leaf _) (ssF_fits2 _ _ _ (by rw [ssP_len]; omega)) (by rw [List.map_cons, fre_agg1]; rfl) (by kernel_rfl) ?_
            rw [ssF_dem]
            refine ev_ ?_
            exact hK
          refine go_ ?_
          cases e2 : rightE l'
          case false =>
            refine go_ ?_
            refine ev_ ?_
            exact .mk (by rfl) trivial
          case true =>
            refine go_ ?_
            with_reducible apply run_y
            exact want_
            · intro K hK
              refine ev_ ?_
              refine vcCall_ice1 (np := 0) (b := 3) (off := 0) (n' := (ssP l).length) (sz := 1) (es := ssP l') (cs := ssF l') (args := [.agg [.slb 3 0 (ssP l).length 1], .agg (hP l.length (rootE noneE (digsE l)))]) (s_lost l' l.length (rootE noneE (digsE l)) (by omega) (by omega) (by omega) hs2) (by decide) (by decide) rfl (ssF_fits1 _ l' _ (by rw [ssP_len]; omega)) (by rw [List.map_cons, fre_agg1]; rfl) (by kernel_rfl) ?_
              refine ev_ ?_
              exact hK
            rw [lost_same hll]
            by_cases hr : rootE noneE (digsE l') = rootE noneE (digsE l)
            case neg =>
              rw [if_neg hr]
              refine go_ ?_
              refine ev_ ?_
              exact .mk (by rfl) trivial
            case pos =>
              rw [if_pos hr]
              have hda : (digsE l).length = l.length := List.length_map _
              have hdb : (digsE l').length = l'.length := List.length_map _
              refine go_ ?_
              with_reducible apply run_y
              exact want_
              · intro K hK
                refine ev_ ?_
                refine vcCall_plain (s_rdigests l (by omega) hs) (by kernel_rfl) ?_
                refine ev_ ?_
                exact hK
              refine go_ ?_
              with_reducible apply run_y
              exact want_
              · intro K hK
                refine ev_ ?_
                refine vcCall_ice1 (np := 0) (b := 3) (off := 0) (n' := (ssP l).length) (sz := 1) (es := ssP l') (cs := ssF l') (args := [.agg [.slb 3 0 (ssP l).length 1]]) (s_rdigests l' (by omega) hs2) (by decide) (by decide) rfl (ssF_fits1 _ l' _ (by rw [ssP_len]; omega)) (by rw [List.map_cons, fre_agg1]; rfl) (by kernel_rfl) ?_
                refine ev_ ?_
                exact hK
              refine go_ ?_
              with_reducible apply run_y
              exact want_
              · intro K hK
                refine ev_ ?_
                refine vcCall_plain (s_same04 (digsE l) (digsE l') (by omega)) (by kernel_rfl) ?_
                refine ev_ ?_
                exact hK
              refine go_ ?_
              cases e3 : decide (digsE l = digsE l')
              case true =>
                refine go_ ?_
                refine ev_ ?_
                exact .mk (vb_eq (by simp)) trivial
              case false =>
                obtain ⟨k1, k2, k3⟩ := clashE_spec noneE (a := digsE l) (b := digsE l') ⟨by omega, of_decide_eq_false e3, hr.symm⟩
                have sc := s_clash (digsE l) (digsE l') (by omega) (by omega)
                generalize clashE noneE (digsE l) (digsE l') = r at sc k1 k2 k3
                obtain ⟨⟨x0, x1⟩, ⟨y0, y1⟩, ok⟩ := r
                simp only at k1 k2 k3
                subst k1
                refine go_ ?_
                with_reducible apply run_y
                exact want_
                · intro K hK
                  refine ev_ ?_
                  refine vcCall_plain (sc) (by kernel_rfl) ?_
                  refine ev_ ?_
                  exact hK
                refine go_ ?_
                with_reducible apply run_y
                exact want_
                · intro K hK
                  refine ev_ ?_
                  refine ⟨_, _, _, pP_flat x0 x1, pP_flat y0 y1, eq_P x0 x1 y0 y1, ?_⟩
                  refine ev_ ?_
                  exact hK
                have e4 : (!(decide (x0 = y0) && decide (x1 = y1))) = true := by
                  simp only [Bool.not_eq_true', Bool.and_eq_false_imp, decide_eq_true_eq, decide_eq_false_iff_not]
                  rintro rfl rfl
                  exact k2 rfl
                refine go_ ?_
                with_reducible apply run_y
                exact want_
                · intro K hK
                  refine ev_ ?_
                  refine vcCall_plain (s_rpair x0 x1) (by kernel_rfl) ?_
                  refine ev_ ?_
                  exact hK
                refine go_ ?_
                with_reducible apply run_y
                exact want_
                · intro K hK
                  refine ev_ ?_
                  refine vcCall_plain (s_rpair y0 y1) (by kernel_rfl) ?_
                  refine ev_ ?_
                  exact hK
                refine go_ ?_
                have e5 : decide (pairE x0 x1 = pairE y0 y1) = true := decide_eq_true k3
                refine go_ ?_
                refine ev_ ?_
                exact .mk (vb_eq (by simp [e4, e5])) trivial
theorem headOther_walk (A : Option Addr) (n c : Nat) (l : List ByteArray) (x : Int) (a : ByteArray) (w : World) (hP : Places w) (hs : SlS w A n c l) (hz : ∀ s ∈ l, s.size ≤ maxLen) (hx : 0 ≤ x) (hx' : x ≤ 255) (_ : a.size ≤ maxLen) :
    Calls Tryd.prog 9 #[.agg #[.slice A n c], .int .u8 x, .string a] w fun e w' => e = .returned (.bool true) ∧ Grow w w' :=
  walk_of (s_headOther l x a hz hx hx') hP (args3 (sl_st hs) (.v _) (.v _))
end Go.Proofs.YtamllmoakgnjoaaDoor
