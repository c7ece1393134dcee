/- The law HeadTail. -/
import Derived.Test.YtamllmoakgnjoaaDoorP42a
namespace Go.Proofs.YtamllmoakgnjoaaDoor
open Go.RowKit
set_option linter.unnecessarySimpa false
theorem lost_self {l l' : List ByteArray} (h : l'.take l.length = l) (hn : l.length ≤ l'.length) : lostE l' (l.length : Int) (rootE noneE (digsE l)) = 0 := by
  unfold lostE
  rw [if_neg (by omega), if_neg (by omega), Int.toNat_natCast, h, if_pos rfl]
theorem lost_few {l l' : List ByteArray} {d : D} (hn : l'.length < l.length) : lostE l' (l.length : Int) d = 6 := by
  unfold lostE
  rw [if_neg (by omega), if_pos (by omega)]
theorem addE_small {l : List ByteArray} {a : ByteArray} (hs : small l) (ha : a.size ≤ 1000000) : small (addE l a).1 := by
  unfold addE
  intro s h
  split at h <;> split at h <;> simp at h
  · exact hs s h
  · rcases h with h | rfl
    · exact hs s h
    · exact ha
theorem addE_take {l : List ByteArray} {a : ByteArray} (h : (addE l a).2.2 = 0) : (addE l a).1.take l.length = l ∧ l.length ≤ (addE l a).1.length := by
  unfold addE at *
  split at h <;> (rename_i h1; first | rw [if_pos h1] | rw [if_neg h1]) <;> split at h <;> (rename_i h2; first | rw [if_pos h2] | rw [if_neg h2]) <;> simp at h ⊢
set_option maxRecDepth 100000 in
theorem s_headTail (l : List ByteArray) (x : Int) (a : ByteArray) (hz : ∀ s ∈ l, s.size ≤ maxLen) (hx : 0 ≤ x) (hx' : x ≤ 255) : Spec (Ctx.mk Tryd.prog globX (0 + 1) Places) 8 [.agg [.sl .any (ssP l)], .v (.int .u8 x), .v (.string a)] [] (.v (.bool true)) [] := by
  refine spec_of_bodyL CX_mixed CX_gpk Tryd.func8 rfl 71 0 rfl rfl rfl rfl ?_
  refine go_ ?_
  with_reducible apply run_y
  exact want_
  · intro K hK
    refine ev_ ?_
    refine vcCall_plain (s_alive43) (by kernel_rfl) ?_
    refine ev_ ?_
    exact hK
  refine go_ ?_
  with_reducible apply run_y
  exact want_
  · intro K hK
    refine ev_ ?_
    refine vcCall_plain (s_few43 l hz) (by kernel_rfl) ?_
    refine ev_ ?_
    exact hK
  refine go_ ?_
  cases hb : (fewE l 20 300 && rightE l)
  · skip
    refine go_ ?_
    refine ev_ ?_
    exact .mk (by rfl) trivial
  · skip
    refine go_ ?_
    first | refine run_b rfl rfl rfl (fun h => ?_) (fun h => ?_) | refine c_cond rfl (fun h => ?_) (fun h => ?_)
    · skip
      refine go_ ?_
      refine ev_ ?_
      exact .mk (by rfl) trivial
    · obtain ⟨h1, h2⟩ := fewE_spec (Bool.and_eq_true_iff.1 hb).1
      have hs : small l := fun s hs => Nat.le_trans (h2 s hs) (by omega)
      have ha : a.size ≤ 300 := by simp at h; omega
      have hl := addE_len l a
      refine go_ ?_
      with_reducible apply run_y
      exact want_
      · intro K hK
        refine ev_ ?_
        refine vcCall_plain (s_shead l (by omega) hs) (by kernel_rfl) ?_
        refine ev_ ?_
        exact hK
      refine go_ ?_
      with_reducible apply run_y
      exact want_
      · intro K hK
        refine ev_ ?_
        refine vcCall_plain (s_lost l l.length (rootE noneE (digsE l)) (by omega) (by omega) (by omega) hs) (by kernel_rfl) ?_
        refine ev_ ?_
        exact hK
      refine go_ ?_
      rw [lost_self (l := l) (l' := l) (List.take_length) (Nat.le_refl _)]
      refine go_ ?_
      first | refine run_b rfl rfl rfl (fun hp => ?_) (fun hp => ?_) | refine c_cond rfl (fun hp => ?_) (fun hp => ?_)
      · have hpos : 0 < l.length := by simp [ssP_len] at hp; omega
        obtain ⟨y, rfl⟩ := Int.eq_ofNat_of_zero_le hx
        have hi : y % l.length < l.length := Nat.mod_lt _ hpos
        have hw : (IntKind.i64.wrap (y : Int)).tmod ((ssP l).length : Int) = ((y % l.length : Nat) : Int) := by
          rw [wrap64 (by omega) (by omega), ssP_len, Int.tmod_eq_emod_of_nonneg hx]
          rfl
        generalize y % l.length = i at *
        refine go_ ?_
        with_reducible apply run_y
        exact want_
        · intro K hK
          refine ev_ ?_
          refine And.intro (by rw [ssP_len]; omega) ?_
          rw [hw]
          refine ev_ ?_
          exact hK
        refine go_ ?_
        with_reducible apply run_y
        exact want_
        · intro K hK
          refine ev_ ?_
          refine ⟨0, i, ssP (l.take i), rfl, rfl, rfl, rfl, Nat.zero_le _, by rw [ssP_len]; omega, ⟨_, _, rfl, rfl, .inl rfl⟩, ssP_take l i, ?_⟩
          refine ev_ ?_
          exact hK
        refine go_ ?_
        have ht : (l.take i).length = i := by rw [List.length_take]; omega
        have hs2 : small (l.take i) := fun s h => hs s (List.mem_of_mem_take h)
        with_reducible apply run_y
        exact want_
        · intro K hK
          refine ev_ ?_
          refine vcCall_plain (s_lost (l.take i) l.length (rootE noneE (digsE l)) (by omega) (by omega) (by omega) hs2) (by kernel_rfl) ?_
          refine ev_ ?_
          exact hK
        refine go_ ?_
        rw [lost_few (by omega)]
        refine go_ ?_
        with_reducible apply run_y
        exact want_
        · intro K hK
          refine ev_ ?_
          refine vcCall_plain (s_shead (l.take i) (by omega) hs2) (by kernel_rfl) ?_
          refine ev_ ?_
          exact hK
        refine go_ ?_
        with_reducible apply run_y
        exact want_
        · intro K hK
          refine ev_ ?_
          refine vcCall_plain (s_lost l (l.take i).length (rootE noneE (digsE (l.take i))) (by omega) (by omega) (by omega) hs) (by kernel_rfl) ?_
          refine ev_ ?_
          exact hK
        refine go_ ?_
        rw [lost_self (l := l.take i) (l' := l) (by rw [ht]) (by omega)]
        refine go_ ?_
        with_reducible apply run_y
        exact want_
        · intro K hK
          refine ev_ ?_
          refine vcCall_plain (s_add l a (by omega) hs (by omega)) (by kernel_rfl) ?_
          refine ev_ ?_
          exact hK
        refine go_ ?_
        first | refine run_b rfl rfl rfl (fun he => ?_) (fun he => ?_) | refine c_cond rfl (fun he => ?_) (fun he => ?_)
        · skip
          refine go_ ?_
          refine ev_ ?_
          exact .mk (vb_eq (by simpa using he)) trivial
        · have e0 : (addE l a).2.2 = 0 := by simpa using he
          obtain ⟨e1, e2⟩ := addE_take e0
          refine go_ ?_
          with_reducible apply run_y
          exact want_
          · intro K hK
            refine ev_ ?_
            refine vcCall_plain (s_lost (addE l a).1 l.length (rootE noneE (digsE l)) (by omega) (by omega) (by omega) (addE_small hs (by omega))) (by kernel_rfl) ?_
            refine ev_ ?_
            exact hK
          refine go_ ?_
          rw [lost_self e1 e2]
          refine go_ ?_
          refine ev_ ?_
          exact .mk (vb_eq (by simp)) trivial
      · skip
        refine go_ ?_
        with_reducible apply run_y
        exact want_
        · intro K hK
          refine ev_ ?_
          refine vcCall_plain (s_add l a (by omega) hs (by omega)) (by kernel_rfl) ?_
          refine ev_ ?_
          exact hK
        refine go_ ?_
        first | refine run_b rfl rfl rfl (fun he => ?_) (fun he => ?_) | refine c_cond rfl (fun he => ?_) (fun he => ?_)
        · skip
          refine go_ ?_
          refine ev_ ?_
          exact .mk (vb_eq (by simpa using he)) trivial
        · have e0 : (addE l a).2.2 = 0 := by simpa using he
          obtain ⟨e1, e2⟩ := addE_take e0
          refine go_ ?_
          with_reducible apply run_y
          exact want_
          · intro K hK
            refine ev_ ?_
            refine vcCall_plain (s_lost (addE l a).1 l.length (rootE noneE (digsE l)) (by omega) (by omega) (by omega) (addE_small hs (by omega))) (by kernel_rfl) ?_
            refine ev_ ?_
            exact hK
          refine go_ ?_
          rw [lost_self e1 e2]
          refine go_ ?_
          refine ev_ ?_
          exact .mk (vb_eq (by simp)) trivial
theorem headTail_walk (A : Option Addr) (n c : Nat) (l : List ByteArray) (x : Int) (a : ByteArray) (w : World) (hP : Places w) (hs : SlS w A n c l) (hz : ∀ s ∈ l, s.size ≤ maxLen) (hx : 0 ≤ x) (hx' : x ≤ 255) (_ : a.size ≤ maxLen) :
    Calls Tryd.prog 8 #[.agg #[.slice A n c], .int .u8 x, .string a] w fun e w' => e = .returned (.bool true) ∧ Grow w w' :=
  walk_of (s_headTail l x a hz hx hx') hP (args3 (sl_st hs) (.v _) (.v _))
end Go.Proofs.YtamllmoakgnjoaaDoor
