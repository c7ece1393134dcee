import Derived.Test.YtamllmoakgnjoaaDoorPx
import Derived.Test.YtamllmoakgnjoaaDoorP4
/- store.Add and seedcornref42.Add answer addE. -/
namespace Go.Proofs.YtamllmoakgnjoaaDoor
open Go.RowKit
set_option linter.unnecessarySimpa false
set_option maxRecDepth 100000 in
theorem s_add (l : List ByteArray) (a : ByteArray) (hm : l.length ≤ 1000000) (hs : small l) (ha : a.size ≤ 1000000) : Spec (Ctx.mk Tryd.prog globX (0 + 1) Places) 32 [.agg [.sl .any (ssP l)], .v (.string a)] [] (.tup [.agg [.sl .any (ssP (addE l a).1)], .v (.int .i64 (addE l a).2.1), .v (.int .i64 (addE l a).2.2)]) [] := by
  refine spec_of_bodyL CX_mixed CX_gpk Tryd.func32 rfl 41 0 rfl rfl rfl rfl ?_
  refine go_ ?_
  with_reducible apply run_y
  exact want_
  · intro K hK
    refine ev_ ?_
    refine vcCall_plain (s_of a ha) (by kernel_rfl) ?_
    refine ev_ ?_
    exact hK
  refine go_ ?_
  with_reducible apply run_y
  exact want_
  · intro K hK
    refine ev_ ?_
    refine vcCall_plain (s_find l (digE a) hm hs) (by kernel_rfl) ?_
    refine ev_ ?_
    exact hK
  refine go_ ?_
  rcases findE_cases l (digE a) with hno | ⟨j, hj, hyes⟩
  · rw [hno]
    refine go_ ?_
    first | refine run_b rfl rfl rfl (fun h => ?_) (fun h => ?_) | refine c_cond rfl (fun h => ?_) (fun h => ?_)
    · skip
      refine go_ ?_
      refine ev_ ?_
      exact .mk (by rw [addE_full hno (by simp [ssP_len] at h; omega)]; rfl) trivial
    · have hl : l.length < 1000 := by simp [ssP_len] at h; omega
      refine go_ ?_
      with_reducible apply run_y
      exact want_
      · intro K hK
        refine ev_ ?_
        refine ⟨0, _, ssP (l), rfl, rfl, rfl, rfl, Nat.zero_le _, Nat.le_refl _, ⟨_, _, rfl, rfl, .inl rfl⟩, ssP_all (l), ?_⟩
        refine ev_ ?_
        exact hK
      refine go_ ?_
      with_reducible apply run_y
      exact want_
      · intro K hK
        refine ev_ ?_
        refine ⟨ssP (l ++ [a]), ssP_app (l) ([a]), appOk_ss (l := l) (l' := [a]) rfl rfl rfl (by simp; omega), ?_⟩
        refine ev_ ?_
        exact hK
      refine go_ ?_
      refine ev_ ?_
      exact .mk (by rw [addE_new hno hl, ← ssP_len l]; rfl) trivial
  · rw [hyes]
    have hge : decide ((j : Int) ≥ 0) = true := by simp
    refine go_ ?_
    first | refine run_b rfl rfl rfl (fun h => ?_) (fun h => ?_) | refine c_cond rfl (fun h => ?_) (fun h => ?_)
    · skip
      refine go_ ?_
      refine ev_ ?_
      exact .mk (by rw [addE_other hyes (by simpa using h)]; rfl) trivial
    · skip
      refine go_ ?_
      refine ev_ ?_
      exact .mk (by rw [addE_same hyes (by simpa using h)]; rfl) trivial
set_option maxRecDepth 100000 in
theorem s_radd (l : List ByteArray) (a : ByteArray) (hm : l.length ≤ 1000000) (hs : small l) (ha : a.size ≤ 1000000) : Spec (Ctx.mk Tryd.prog globX (0 + 1) Places) 33 [.agg [.sl .any (ssP l)], .v (.string a)] [] (.tup [.agg [.sl .any (ssP (addE l a).1)], .v (.int .i64 (addE l a).2.1), .v (.int .i64 (addE l a).2.2)]) [] := by
  refine spec_of_bodyL CX_mixed CX_gpk Tryd.func33 rfl 44 0 rfl rfl rfl rfl ?_
  refine go_ ?_
  with_reducible apply run_y
  exact want_
  · intro K hK
    refine ev_ ?_
    refine vcCall_plain (s_rof a ha) (by kernel_rfl) ?_
    refine ev_ ?_
    exact hK
  refine go_ ?_
  with_reducible apply run_y
  exact want_
  · intro K hK
    refine ev_ ?_
    refine vcCall_plain (s_rfind l (digE a) hm hs) (by kernel_rfl) ?_
    refine ev_ ?_
    exact hK
  refine go_ ?_
  rcases findE_cases l (digE a) with hno | ⟨j, hj, hyes⟩
  · rw [hno]
    refine go_ ?_
    first | refine run_b rfl rfl rfl (fun h => ?_) (fun h => ?_) | refine c_cond rfl (fun h => ?_) (fun h => ?_)
    · skip
      refine go_ ?_
      refine ev_ ?_
      exact .mk (by rw [addE_full hno (by simp [ssP_len] at h; omega)]; rfl) trivial
    · have hl : l.length < 1000 := by simp [ssP_len] at h; omega
      refine go_ ?_
      with_reducible apply run_y
      exact want_
      · intro K hK
        refine ev_ ?_
        refine ⟨ssP l, ssP_app [] l, appOk_ss (l := []) (l' := l) rfl rfl rfl (by simp; omega), ?_⟩
        refine ev_ ?_
        exact hK
      refine go_ ?_
      with_reducible apply run_y
      exact want_
      · intro K hK
        refine ev_ ?_
        refine ⟨ssP (l ++ [a]), ssP_app (l) ([a]), appOk_ss (l := l) (l' := [a]) rfl rfl rfl (by simp; omega), ?_⟩
        refine ev_ ?_
        exact hK
      refine go_ ?_
      refine ev_ ?_
      exact .mk (by rw [addE_new hno hl, ← ssP_len l]; rfl) trivial
  · rw [hyes]
    have hge : decide ((j : Int) ≥ 0) = true := by simp
    refine go_ ?_
    first | refine run_b rfl rfl rfl (fun h => ?_) (fun h => ?_) | refine c_cond rfl (fun h => ?_) (fun h => ?_)
    · skip
      refine go_ ?_
      refine ev_ ?_
      exact .mk (by rw [addE_same hyes (by simpa using h)]; rfl) trivial
    · skip
      refine go_ ?_
      refine ev_ ?_
      exact .mk (by rw [addE_other hyes (by simpa using h)]; rfl) trivial
end Go.Proofs.YtamllmoakgnjoaaDoor
/- seedcornref42.Same tells whether two stores are alike. -/
namespace Go.Proofs.YtamllmoakgnjoaaDoor
open Go.RowKit
set_option linter.unnecessarySimpa false
set_option maxRecDepth 100000 in
theorem s_same42 (a b : List ByteArray) (hn : a.length < 1000000) : Spec (Ctx.mk Tryd.prog globX (0 + 1) Places) 36 [.agg [.sl .any (ssP a)], .agg [.sl .any (ssP b)]] [] (.v (.bool (decide (a = b)))) [] := by
  refine spec_of_bodyL CX_mixed CX_gpk Tryd.func36 rfl 31 0 rfl rfl rfl rfl ?_
  refine go_ ?_
  first | refine run_b rfl rfl rfl (fun h => ?_) (fun h => ?_) | refine c_cond rfl (fun h => ?_) (fun h => ?_)
  · skip
    refine go_ ?_
    have hne : a ≠ b := fun e => by subst e; simp at h
    refine ev_ ?_
    exact .mk (by rw [decide_eq_false hne]; rfl) trivial
  · have hl : a.length = b.length := by simp [ssP_len] at h; omega
    refine go_ ?_
    refine c_loop (fun k l m h => ∃ j : Nat, j ≤ a.length ∧ k = a.length - j ∧ l = [.top, .top, .ptr 1 0, .ptr 2 0, .v (.bool false), .v (.int .i64 (j : Int))] ++ List.replicate 25 .top ∧ m = 3 ∧ h = [(1, .cells [.sl .any (ssP a)]), (2, .cells [.sl .any (ssP b)])] ∧ ∀ i, i < j → a.getD i ByteArray.empty = b.getD i ByteArray.empty)
      ⟨_, _, _, _, ?_, ?_, ⟨0, by omega, rfl, rfl, rfl, rfl, fun i hi => by omega⟩⟩ ?_
    · rfl
    · skip
      exact sub_
    · rintro k l m h hlen ⟨j, hj, rfl, rfl, rfl, rfl, hall⟩
      refine go_ ?_
      first | refine run_b rfl rfl rfl (fun h => ?_) (fun h => ?_) | refine c_cond rfl (fun h => ?_) (fun h => ?_)
      · have hlt : j < a.length := by simp [ssP_len] at h; omega
        have hlt' : j < b.length := by omega
        refine go_ ?_
        first | refine run_b rfl rfl rfl (fun h => ?_) (fun h => ?_) | refine c_cond rfl (fun h => ?_) (fun h => ?_)
        · skip
          refine go_ ?_
          have hne : a ≠ b := fun e => by subst e; simp at h
          refine ev_ ?_
          exact .mk (by rw [decide_eq_false hne]; rfl) trivial
        · skip
          refine go_ ?_
          refine c_round ⟨_, _, _, _, ?_, ?_, ?_, ⟨j + 1, by omega, rfl, rfl, rfl, rfl, fun i hi => ?_⟩⟩
          · omega
          · rfl
          · skip
            exact sub_
          · by_cases hij : i < j
            · exact hall i hij
            · have : i = j := by omega
              subst this
              simpa using h
      · have hge : ¬ j < a.length := by simp [ssP_len] at h; omega
        refine go_ ?_
        have he : a = b := List.ext_getElem hl fun i h1 h2 => by
          have := hall i (by omega)
          simpa [List.getD, h1, h2] using this
        refine ev_ ?_
        exact .mk (by rw [decide_eq_true he]; rfl) trivial
end Go.Proofs.YtamllmoakgnjoaaDoor
/- The laws of store.Add. -/
namespace Go.Proofs.YtamllmoakgnjoaaDoor
open Go.RowKit
set_option linter.unnecessarySimpa false
theorem add_ab : addE [] abS = ([abS], 0, 0) := rfl
theorem dig_ab : digE abS ≠ D.zero := by
  have : decide (digE abS = D.zero) = false := by kernel_rfl
  exact of_decide_eq_false this
theorem get_ab : getE [abS] (digE abS) = (abS, 0) := by
  have h : findE [abS] (digE abS) = ((0 : Nat) : Int) := findE_at (by simp) (fun q hq => by omega) rfl
  unfold getE; rw [h]; rfl
theorem get_no : getE [abS] D.zero = (ByteArray.empty, 6) := by
  have h : findE [abS] D.zero = -1 := by kernel_rfl
  unfold getE; rw [h]; rfl
theorem small_nil : small [] := by intro s hs; cases hs
theorem root_nil : rootE noneE (digsE []) = digE ByteArray.empty := by kernel_rfl
set_option maxRecDepth 100000 in
theorem s_awake42 : Spec (Ctx.mk Tryd.prog globX (0 + 1) Places) 31 [] [] (.v (.bool true)) [] := by
  refine spec_of_bodyL CX_mixed CX_gpk Tryd.func31 rfl 56 0 rfl rfl rfl rfl ?_
  refine go_ ?_
  with_reducible apply run_y
  exact want_
  · intro K hK
    refine ev_ ?_
    refine vcCall_plain (s_add [] abS (by simp) small_nil (by decide)) (by kernel_rfl) ?_
    refine ev_ ?_
    exact hK
  refine go_ ?_
  rw [add_ab]
  refine go_ ?_
  with_reducible apply run_y
  exact want_
  · intro K hK
    refine ev_ ?_
    refine vcCall_plain (s_rof abS (by decide)) (by kernel_rfl) ?_
    refine ev_ ?_
    exact hK
  refine go_ ?_
  with_reducible apply run_y
  exact want_
  · intro K hK
    refine ev_ ?_
    refine vcCall_plain (s_get [abS] (digE abS) (by simp) small_ab) (by kernel_rfl) ?_
    refine ev_ ?_
    exact hK
  refine go_ ?_
  rw [get_ab]
  refine go_ ?_
  with_reducible apply run_y
  exact want_
  · intro K hK
    refine ev_ ?_
    refine vcCall_plain (s_get [abS] D.zero (by simp) small_ab) (by kernel_rfl) ?_
    refine ev_ ?_
    exact hK
  refine go_ ?_
  rw [get_no]
  refine go_ ?_
  with_reducible apply run_y
  exact want_
  · intro K hK
    refine ev_ ?_
    refine vcCall_plain (s_sroot [] (by simp) small_nil) (by kernel_rfl) ?_
    refine ev_ ?_
    exact hK
  refine go_ ?_
  rw [root_nil]
  with_reducible apply run_y
  exact want_
  · intro K hK
    refine ev_ ?_
    refine vcCall_plain (s_rof ByteArray.empty (by decide)) (by kernel_rfl) ?_
    refine ev_ ?_
    exact hK
  refine go_ ?_
  refine go_ ?_
  with_reducible apply run_y
  exact want_
  · intro K hK
    refine ev_ ?_
    refine vcCall_plain (s_shead [abS] (by simp) small_ab) (by kernel_rfl) ?_
    refine ev_ ?_
    exact hK
  refine go_ ?_
  refine ev_ ?_
  exact .mk (by rfl) trivial
theorem addE_len (l : List ByteArray) (a : ByteArray) : (addE l a).1.length ≤ l.length + 1 := by
  unfold addE
  split
  · split <;> simp
  · split <;> simp
set_option maxRecDepth 100000 in
theorem s_storeAdds (l : List ByteArray) (a : ByteArray) (d : D) (hz : ∀ s ∈ l, s.size ≤ maxLen) : Spec (Ctx.mk Tryd.prog globX (0 + 1) Places) 6 [.agg [.sl .any (ssP l)], .v (.string a), .agg (dP d)] [] (.v (.bool true)) [] := by
  refine spec_of_bodyL CX_mixed CX_gpk Tryd.func6 rfl 78 0 rfl rfl rfl rfl ?_
  refine go_ ?_
  with_reducible apply run_y
  exact want_
  · intro K hK
    refine ev_ ?_
    refine vcCall_plain (s_small42 l hz) (by kernel_rfl) ?_
    refine ev_ ?_
    exact hK
  refine go_ ?_
  cases hb : (fewE l 20 60 && rightE l)
  · skip
    refine go_ ?_
    with_reducible apply run_y
    exact want_
    · intro K hK
      refine ev_ ?_
      refine vcCall_plain (s_awake42) (by kernel_rfl) ?_
      refine ev_ ?_
      exact hK
    refine go_ ?_
    refine ev_ ?_
    exact .mk (by rfl) trivial
  · skip
    refine go_ ?_
    first | refine run_b rfl rfl rfl (fun h => ?_) (fun h => ?_) | refine c_cond rfl (fun h => ?_) (fun h => ?_)
    · skip
      refine go_ ?_
      with_reducible apply run_y
      exact want_
      · intro K hK
        refine ev_ ?_
        refine vcCall_plain (s_awake42) (by kernel_rfl) ?_
        refine ev_ ?_
        exact hK
      refine go_ ?_
      refine ev_ ?_
      exact .mk (by rfl) trivial
    · obtain ⟨h1, h2⟩ := fewE_spec (Bool.and_eq_true_iff.1 hb).1
      have hs : small l := fun s hs => Nat.le_trans (h2 s hs) (by omega)
      have ha : a.size ≤ 60 := by simp at h; omega
      have hl := addE_len l a
      refine go_ ?_
      with_reducible apply run_y
      exact want_
      · intro K hK
        refine ev_ ?_
        refine vcCall_plain (s_add l a (by omega) hs (by omega)) (by kernel_rfl) ?_
        refine ev_ ?_
        exact hK
      refine go_ ?_
      with_reducible apply run_y
      exact want_
      · intro K hK
        refine ev_ ?_
        refine vcCall_plain (s_radd l a (by omega) hs (by omega)) (by kernel_rfl) ?_
        refine ev_ ?_
        exact hK
      refine go_ ?_
      with_reducible apply run_y
      exact want_
      · intro K hK
        refine ev_ ?_
        refine vcCall_plain (s_get l d (by omega) hs) (by kernel_rfl) ?_
        refine ev_ ?_
        exact hK
      refine go_ ?_
      with_reducible apply run_y
      exact want_
      · intro K hK
        refine ev_ ?_
        refine vcCall_plain (s_rget l d (by omega) hs) (by kernel_rfl) ?_
        refine ev_ ?_
        exact hK
      refine go_ ?_
      with_reducible apply run_y
      exact want_
      · intro K hK
        refine ev_ ?_
        refine vcCall_plain (s_awake42) (by kernel_rfl) ?_
        refine ev_ ?_
        exact hK
      refine go_ ?_
      with_reducible apply run_y
      exact want_
      · intro K hK
        refine ev_ ?_
        refine vcCall_plain (s_same42 (addE l a).1 (addE l a).1 (by omega)) (by kernel_rfl) ?_
        refine ev_ ?_
        exact hK
      refine go_ ?_
      refine ev_ ?_
      exact .mk (vb_eq (by simp)) trivial
theorem storeAdds_walk (A : Option Addr) (n c : Nat) (l : List ByteArray) (a : ByteArray) (d : D) (w : World) (hP : Places w) (hs : SlS w A n c l) (hz : ∀ s ∈ l, s.size ≤ maxLen) (_ : a.size ≤ maxLen) :
    Calls Tryd.prog 6 #[.agg #[.slice A n c], .string a, .agg (us d.1)] w fun e w' => e = .returned (.bool true) ∧ Grow w w' :=
  walk_of (s_storeAdds l a d hz) hP (args3 (sl_st hs) (.v _) (rep_D _ d))
end Go.Proofs.YtamllmoakgnjoaaDoor
/- store.Prove and seedcornref42.Prove, store.Same, slices.Index and slices.Equal at the program's types. -/
namespace Go.Proofs.YtamllmoakgnjoaaDoor
open Go.RowKit
set_option linter.unnecessarySimpa false
def dfindE (ds : List D) (d : D) : Int := match ds.findIdx? (fun x => decide (x = d)) with | some j => (j : Int) | none => -1
theorem dfind_digs (l : List ByteArray) (d : D) : dfindE (digsE l) d = findE l d := by
  unfold dfindE findE digsE
  rw [List.findIdx?_map]
  rfl
theorem dfind_at {ds : List D} {d : D} {j : Nat} (hj : j < ds.length) (hb : ∀ q, q < j → ds.getD q D.zero ≠ d) (h : ds.getD j D.zero = d) : dfindE ds d = (j : Int) := by
  have : ds.findIdx? (fun x => decide (x = d)) = some j := by
    rw [List.findIdx?_eq_some_iff_getElem]
    refine ⟨hj, ?_, fun q hq => ?_⟩
    · rw [getD_eq hj] at h; simpa using h
    · have := hb q hq
      rw [getD_eq (by omega)] at this
      simpa using this
  unfold dfindE; rw [this]
theorem dfind_no {ds : List D} {d : D} (hb : ∀ q, q < ds.length → ds.getD q D.zero ≠ d) : dfindE ds d = -1 := by
  have : ds.findIdx? (fun x => decide (x = d)) = none := by
    rw [List.findIdx?_eq_none_iff]
    intro x hx
    obtain ⟨q, hq, rfl⟩ := List.getElem_of_mem hx
    have := hb q hq
    rw [getD_eq hq] at this
    simpa using this
  unfold dfindE; rw [this]
set_option maxRecDepth 100000 in
theorem s_index (ds : List D) (d : D) (hn : ds.length ≤ 1000000) : Spec (Ctx.mk Tryd.prog globX (0 + 1) Places) 84 [.sl .any (dsP ds), .agg (dP d)] [] (.v (.int .i64 (dfindE ds d))) [] := by
  refine spec_of_bodyL CX_mixed CX_gpk Tryd.func84 rfl 19 0 rfl rfl rfl rfl ?_
  refine go_ ?_
  refine c_loop (fun k q m h => ∃ j : Nat, j ≤ ds.length ∧ k = ds.length - j ∧ q = [.sl .any (dsP ds), .top, .top, .ptr 1 0, .v (.int .i64 0), .top, .top, .v (.int .i64 ((dsP ds).length : Int)), .v (.int .i64 (j : Int))] ++ List.replicate 10 .top ∧ m = 2 ∧ h = [(1, .cells (dP d))] ∧ ∀ q, q < j → ds.getD q D.zero ≠ d)
    ⟨_, _, _, _, ?_, ?_, ⟨0, by omega, rfl, rfl, rfl, rfl, fun q hq => by omega⟩⟩ ?_
  · rfl
  · skip
    exact sub_
  · rintro k q m h hlen ⟨j, hj, rfl, rfl, rfl, rfl, hall⟩
    clear hlen
    refine go_ ?_
    first | refine run_b rfl rfl rfl (fun h => ?_) (fun h => ?_) | refine c_cond rfl (fun h => ?_) (fun h => ?_)
    · have hj' : j < ds.length := by simpa [dsP_len] using h
      refine go_ ?_
      first | refine run_b rfl rfl rfl (fun h2 => ?_) (fun h2 => ?_) | refine c_cond rfl (fun h2 => ?_) (fun h2 => ?_)
      · skip
        refine go_ ?_
        refine ev_ ?_
        exact .mk (by rw [dfind_at hj' hall (by simpa using (by simpa using h2 : d = ds.getD j D.zero).symm)]; rfl) trivial
      · skip
        refine go_ ?_
        refine c_round ⟨_, _, _, _, ?_, ?_, ?_, ⟨j + 1, by omega, rfl, rfl, rfl, rfl, fun q hq => ?_⟩⟩
        · omega
        · rfl
        · skip
          exact sub_
        · by_cases hqj : q < j
          · exact hall q hqj
          · obtain rfl : q = j := by omega
            intro e
            rw [e] at h2
            simp at h2
    · have hj' : ¬ j < ds.length := by simpa [dsP_len] using h
      refine go_ ?_
      refine ev_ ?_
      exact .mk (by rw [dfind_no fun q hq => hall q (by omega)]; rfl) trivial
set_option maxRecDepth 100000 in
theorem s_equal (a b : List ByteArray) (hn : a.length ≤ 1000000) : Spec (Ctx.mk Tryd.prog globX (0 + 1) Places) 77 [.sl .any (ssP a), .sl .any (ssP b)] [] (.v (.bool (decide (a = b)))) [] := by
  refine spec_of_bodyL CX_mixed CX_gpk Tryd.func77 rfl 26 0 rfl rfl rfl rfl ?_
  refine go_ ?_
  first | refine run_b rfl rfl rfl (fun h => ?_) (fun h => ?_) | refine c_cond rfl (fun h => ?_) (fun h => ?_)
  · skip
    refine go_ ?_
    have hne : a ≠ b := fun e => by subst e; simp at h
    refine ev_ ?_
    exact .mk (by rw [decide_eq_false hne]; rfl) trivial
  · have hl : a.length = b.length := by simp [ssP_len] at h; omega
    refine go_ ?_
    refine c_loop (fun k q m h => ∃ j : Nat, j ≤ a.length ∧ k = a.length - j ∧ q = [.sl .any (ssP a), .sl .any (ssP b), .top, .top, .v (.bool false), .top, .top, .top, .top, .top, .top, .top, .v (.int .i64 ((ssP a).length : Int)), .v (.int .i64 (j : Int))] ++ List.replicate 12 .top ∧ m = 1 ∧ h = [] ∧ ∀ i, i < j → a.getD i ByteArray.empty = b.getD i ByteArray.empty)
      ⟨_, _, _, _, ?_, ?_, ⟨0, by omega, rfl, rfl, rfl, rfl, fun i hi => by omega⟩⟩ ?_
    · rfl
    · skip
      exact sub_
    · rintro k q m h hlen ⟨j, hj, rfl, rfl, rfl, rfl, hall⟩
      clear hlen
      refine go_ ?_
      first | refine run_b rfl rfl rfl (fun h => ?_) (fun h => ?_) | refine c_cond rfl (fun h => ?_) (fun h => ?_)
      · have hlt : j < a.length := by simpa [ssP_len] using h
        have hlt' : j < b.length := by omega
        refine go_ ?_
        first | refine run_b rfl rfl rfl (fun h2 => ?_) (fun h2 => ?_) | refine c_cond rfl (fun h2 => ?_) (fun h2 => ?_)
        · skip
          refine go_ ?_
          have hne : a ≠ b := fun e => by subst e; simp at h2
          refine ev_ ?_
          exact .mk (by rw [decide_eq_false hne]; rfl) trivial
        · skip
          refine go_ ?_
          refine c_round ⟨_, _, _, _, ?_, ?_, ?_, ⟨j + 1, by omega, rfl, rfl, rfl, rfl, fun i hi => ?_⟩⟩
          · omega
          · rfl
          · skip
            exact sub_
          · by_cases hij : i < j
            · exact hall i hij
            · obtain rfl : i = j := by omega
              simpa using h2
      · have hge : ¬ j < a.length := by simpa [ssP_len] using h
        refine go_ ?_
        have he : a = b := List.ext_getElem hl fun i h1 h2 => by
          have := hall i (by omega)
          simpa [List.getD, h1, h2] using this
        refine ev_ ?_
        exact .mk (by rw [decide_eq_true he]; rfl) trivial
set_option maxRecDepth 100000 in
theorem s_ssame (a b : List ByteArray) (hn : a.length ≤ 1000000) : Spec (Ctx.mk Tryd.prog globX (0 + 1) Places) 47 [.agg [.sl .any (ssP a)], .agg [.sl .any (ssP b)]] [] (.v (.bool (decide (a = b)))) [] := by
  refine spec_of_bodyL CX_mixed CX_gpk Tryd.func47 rfl 10 0 rfl rfl rfl rfl ?_
  refine go_ ?_
  with_reducible apply run_y
  exact want_
  · intro K hK
    refine ev_ ?_
    refine vcCall_plain (s_equal a b hn) (by kernel_rfl) ?_
    refine ev_ ?_
    exact hK
  refine go_ ?_
  refine ev_ ?_
  exact .mk (by rfl) trivial
def sproveE (l : List ByteArray) (d : D) : Int × List D × Int := if findE l d < 0 then (0, [], 6) else (findE l d, wayE noneE (digsE l) (findE l d).toNat, 0)
set_option maxRecDepth 100000 in
theorem s_sprove (l : List ByteArray) (d : D) (hn : l.length ≤ 1000000) (hs : small l) : Spec (Ctx.mk Tryd.prog globX (0 + 1) Places) 58 [.agg [.sl .any (ssP l)], .agg (dP d)] [] (.tup [.v (.int .i64 (sproveE l d).1), .sl .any (dsP (sproveE l d).2.1), .v (.int .i64 (sproveE l d).2.2)]) [] := by
  refine spec_of_bodyL CX_mixed CX_gpk Tryd.func58 rfl 29 0 rfl rfl rfl rfl ?_
  have hdl : (digsE l).length = l.length := List.length_map _
  refine go_ ?_
  with_reducible apply run_y
  exact want_
  · intro K hK
    refine ev_ ?_
    refine vcCall_plain (s_digests l hn hs) (by kernel_rfl) ?_
    refine ev_ ?_
    exact hK
  refine go_ ?_
  with_reducible apply run_y
  exact want_
  · intro K hK
    refine ev_ ?_
    refine vcCall_plain (s_index (digsE l) d (by omega)) (by kernel_rfl) ?_
    refine ev_ ?_
    exact hK
  refine go_ ?_
  rw [dfind_digs]
  unfold sproveE
  rcases findE_cases l d with hno | ⟨j, hj, hyes⟩
  · rw [hno, if_pos (by decide)]
    refine go_ ?_
    refine ev_ ?_
    exact .mk (by rfl) trivial
  · rw [hyes, if_neg (by omega), Int.toNat_natCast]
    have hc : decide ((j : Int) < 0) = false := by simp
    refine go_ ?_
    with_reducible apply run_y
    exact want_
    · intro K hK
      refine ev_ ?_
      refine vcCall_plain (s_prove (digsE l) j (by omega) (by omega)) (by kernel_rfl) ?_
      refine ev_ ?_
      exact hK
    refine go_ ?_
    refine ev_ ?_
    exact .mk (by rfl) trivial
set_option maxRecDepth 100000 in
theorem s_rsprove (l : List ByteArray) (d : D) (hn : l.length ≤ 1000000) (hs : small l) : Spec (Ctx.mk Tryd.prog globX (0 + 1) Places) 59 [.agg [.sl .any (ssP l)], .agg (dP d)] [] (.tup [.v (.int .i64 (sproveE l d).1), .sl .any (dsP (sproveE l d).2.1), .v (.int .i64 (sproveE l d).2.2)]) [] := by
  refine spec_of_bodyL CX_mixed CX_gpk Tryd.func59 rfl 24 0 rfl rfl rfl rfl ?_
  have hdl : (digsE l).length = l.length := List.length_map _
  refine go_ ?_
  with_reducible apply run_y
  exact want_
  · intro K hK
    refine ev_ ?_
    refine vcCall_plain (s_rfind l d hn hs) (by kernel_rfl) ?_
    refine ev_ ?_
    exact hK
  refine go_ ?_
  unfold sproveE
  rcases findE_cases l d with hno | ⟨j, hj, hyes⟩
  · rw [hno, if_pos (by decide)]
    refine go_ ?_
    refine ev_ ?_
    exact .mk (by rfl) trivial
  · rw [hyes, if_neg (by omega), Int.toNat_natCast]
    have hc : decide ((j : Int) < 0) = false := by simp
    refine go_ ?_
    with_reducible apply run_y
    exact want_
    · intro K hK
      refine ev_ ?_
      refine vcCall_plain (s_rdigests l hn hs) (by kernel_rfl) ?_
      refine ev_ ?_
      exact hK
    refine go_ ?_
    with_reducible apply run_y
    exact want_
    · intro K hK
      refine ev_ ?_
      refine vcCall_plain (s_rprove (digsE l) j (by omega) (by omega)) (by kernel_rfl) ?_
      refine ev_ ?_
      exact hK
    refine go_ ?_
    refine ev_ ?_
    exact .mk (by rfl) trivial
end Go.Proofs.YtamllmoakgnjoaaDoor
/- The laws StoreProves and StoreHolds. -/
namespace Go.Proofs.YtamllmoakgnjoaaDoor
open Go.RowKit
set_option linter.unnecessarySimpa false
set_option maxRecDepth 100000 in
theorem s_rsroot (l : List ByteArray) (hn : l.length ≤ 1000000) (hs : small l) : Spec (Ctx.mk Tryd.prog globX (0 + 1) Places) 60 [.agg [.sl .any (ssP l)]] [] (.agg (dP (rootE noneE (digsE l)))) [] := by
  refine spec_of_bodyL CX_mixed CX_gpk Tryd.func60 rfl 6 0 rfl rfl rfl rfl ?_
  have hdl : (digsE l).length = l.length := List.length_map _
  refine go_ ?_
  with_reducible apply run_y
  exact want_
  · intro K hK
    refine ev_ ?_
    refine vcCall_plain (s_rdigests l hn hs) (by kernel_rfl) ?_
    refine ev_ ?_
    exact hK
  refine go_ ?_
  with_reducible apply run_y
  exact want_
  · intro K hK
    refine ev_ ?_
    refine vcCall_plain (s_rroot (digsE l) (by omega)) (by kernel_rfl) ?_
    refine ev_ ?_
    exact hK
  refine go_ ?_
  refine ev_ ?_
  exact .mk (by rfl) trivial
set_option maxRecDepth 100000 in
theorem s_rshead (l : List ByteArray) (hn : l.length ≤ 1000000) (hs : small l) : Spec (Ctx.mk Tryd.prog globX (0 + 1) Places) 61 [.agg [.sl .any (ssP l)]] [] (.agg (hP l.length (rootE noneE (digsE l)))) [] := by
  refine spec_of_bodyL CX_mixed CX_gpk Tryd.func61 rfl 9 0 rfl rfl rfl rfl ?_
  refine go_ ?_
  with_reducible apply run_y
  exact want_
  · intro K hK
    refine ev_ ?_
    refine vcCall_plain (s_rsroot l hn hs) (by kernel_rfl) ?_
    refine ev_ ?_
    exact hK
  refine go_ ?_
  refine ev_ ?_
  exact .mk (by rw [← ssP_len l]; rfl) trivial
set_option maxRecDepth 100000 in
theorem s_storeProves (l : List ByteArray) (d : D) (hz : ∀ s ∈ l, s.size ≤ maxLen) : Spec (Ctx.mk Tryd.prog globX (0 + 1) Places) 18 [.agg [.sl .any (ssP l)], .agg (dP d)] [] (.v (.bool true)) [] := by
  refine spec_of_bodyL CX_mixed CX_gpk Tryd.func18 rfl 75 0 rfl rfl rfl rfl ?_
  refine go_ ?_
  with_reducible apply run_y
  exact want_
  · intro K hK
    refine ev_ ?_
    refine vcCall_plain (s_small42 l hz) (by kernel_rfl) ?_
    refine ev_ ?_
    exact hK
  refine go_ ?_
  cases hb : (fewE l 20 60 && rightE l)
  · skip
    refine go_ ?_
    with_reducible apply run_y
    exact want_
    · intro K hK
      refine ev_ ?_
      refine vcCall_plain (s_awake42) (by kernel_rfl) ?_
      refine ev_ ?_
      exact hK
    refine go_ ?_
    refine ev_ ?_
    exact .mk (vb_eq (by simp)) trivial
  · obtain ⟨h1, h2⟩ := fewE_spec (Bool.and_eq_true_iff.1 hb).1
    have hs : small l := fun s hs => Nat.le_trans (h2 s hs) (by omega)
    refine go_ ?_
    with_reducible apply run_y
    exact want_
    · intro K hK
      refine ev_ ?_
      refine vcCall_plain (s_sprove l d (by omega) hs) (by kernel_rfl) ?_
      refine ev_ ?_
      exact hK
    refine go_ ?_
    with_reducible apply run_y
    exact want_
    · intro K hK
      refine ev_ ?_
      refine vcCall_plain (s_rsprove l d (by omega) hs) (by kernel_rfl) ?_
      refine ev_ ?_
      exact hK
    refine go_ ?_
    have hps : (sproveE l d).2.1.length ≤ 10 := by
      unfold sproveE
      split
      · simp
      · exact wayE_length_le noneE 10 _ _ (by rw [show (digsE l).length = l.length from List.length_map _]; omega)
    generalize (sproveE l d).2.1 = ps at *
    refine c_loop (fun k q m h => ∃ j : Nat, j ≤ ps.length ∧ k = ps.length - j ∧ q = [.top, .top, .ptr 1 0, .top, .v (.bool false), .top, .sl .any (dsP ps), .top, .top, .sl .any (dsP ps), .top, .v (.int .i64 (j : Int))] ++ List.replicate 63 .top ∧ m = 2 ∧ h = [(1, .cells [.sl .any (ssP l)])])
      ⟨_, _, _, _, ?_, ?_, ⟨0, by omega, rfl, rfl, rfl, rfl⟩⟩ ?_
    · rfl
    · skip
      exact sub_
    · rintro k q m h hlen ⟨j, hj, rfl, rfl, rfl, rfl⟩
      clear hlen
      refine go_ ?_
      first | refine run_b rfl rfl rfl (fun h => ?_) (fun h => ?_) | refine c_cond rfl (fun h => ?_) (fun h => ?_)
      · have hlt : j < ps.length := by simpa [dsP_len] using h
        refine go_ ?_
        refine c_round ⟨_, _, _, _, ?_, ?_, ?_, ⟨j + 1, by omega, rfl, rfl, rfl, rfl⟩⟩
        · omega
        · rfl
        · skip
          exact sub_
      · skip
        refine go_ ?_
        with_reducible apply run_y
        exact want_
        · intro K hK
          refine ev_ ?_
          refine vcCall_plain (s_awake42) (by kernel_rfl) ?_
          refine ev_ ?_
          exact hK
        refine go_ ?_
        with_reducible apply run_y
        exact want_
        · intro K hK
          refine ev_ ?_
          refine vcCall_plain (s_sroot l (by omega) hs) (by kernel_rfl) ?_
          refine ev_ ?_
          exact hK
        refine go_ ?_
        with_reducible apply run_y
        exact want_
        · intro K hK
          refine ev_ ?_
          refine vcCall_plain (s_rsroot l (by omega) hs) (by kernel_rfl) ?_
          refine ev_ ?_
          exact hK
        refine go_ ?_
        with_reducible apply run_y
        exact want_
        · intro K hK
          refine ev_ ?_
          refine vcCall_plain (s_shead l (by omega) hs) (by kernel_rfl) ?_
          refine ev_ ?_
          exact hK
        refine go_ ?_
        with_reducible apply run_y
        exact want_
        · intro K hK
          refine ev_ ?_
          refine vcCall_plain (s_rshead l (by omega) hs) (by kernel_rfl) ?_
          refine ev_ ?_
          exact hK
        refine go_ ?_
        refine ev_ ?_
        exact .mk (vb_eq (by simp)) trivial
theorem storeProves_walk (A : Option Addr) (n c : Nat) (l : List ByteArray) (d : D) (w : World) (hP : Places w) (hs : SlS w A n c l) (hz : ∀ s ∈ l, s.size ≤ maxLen) :
    Calls Tryd.prog 18 #[.agg #[.slice A n c], .agg (us d.1)] w fun e w' => e = .returned (.bool true) ∧ Grow w w' :=
  walk_of (s_storeProves l d hz) hP (args2 (sl_st hs) (rep_D _ d))
end Go.Proofs.YtamllmoakgnjoaaDoor
/- The law StoreHolds. -/
namespace Go.Proofs.YtamllmoakgnjoaaDoor
open Go.RowKit
set_option linter.unnecessarySimpa false
theorem addE_small2 {l : List ByteArray} {a : ByteArray} (hs : small l) (ha : a.size ≤ 1000000) : small (addE l a).1 := by
  unfold addE
  intro s h
  split at h <;> split at h <;> simp at h
  · exact hs s h
  · rcases h with h | rfl
    · exact hs s h
    · exact ha
theorem addE_more {l : List ByteArray} {a : ByteArray} (h : (addE l a).2.2 = 0) : l.length ≤ (addE l a).1.length := by
  unfold addE at *
  split at h <;> (rename_i h1; first | rw [if_pos h1] | rw [if_neg h1]) <;> split at h <;> (rename_i h2; first | rw [if_pos h2] | rw [if_neg h2]) <;> simp at h ⊢
theorem findE_app {l : List ByteArray} {a : ByteArray} (h : findE l (digE a) = -1) : findE (l ++ [a]) (digE a) = (l.length : Int) := by
  refine findE_at (by simp) (fun q hq e => ?_) (by simp [List.getD])
  rcases findE_cases l (digE a) with hno | ⟨j, hj, hyes⟩
  · unfold findE at hno
    split at hno
    · omega
    · rename_i hn
      rw [List.findIdx?_eq_none_iff] at hn
      have hq' : q < l.length := hq
      have := hn (l.getD q ByteArray.empty) (by rw [getD_eq hq']; exact List.getElem_mem hq')
      rw [show (l ++ [a]).getD q ByteArray.empty = l.getD q ByteArray.empty by simp [List.getD, List.getElem?_append_left hq']] at e
      exact absurd e (of_decide_eq_false this)
  · omega
theorem addE_ok {l : List ByteArray} {a : ByteArray} (h : (addE l a).2.2 = 0) : ∃ j : Nat, (addE l a).2.1 = j ∧ j < (addE l a).1.length ∧ findE (addE l a).1 (digE a) = j ∧ (addE l a).1.getD j ByteArray.empty = a := by
  rcases findE_cases l (digE a) with hno | ⟨j, hj, hyes⟩
  · by_cases hl : l.length < 1000
    · rw [addE_new hno hl]
      exact ⟨l.length, rfl, by simp, findE_app hno, by simp [List.getD]⟩
    · rw [addE_full hno (by omega)] at h
      cases h
  · by_cases he : l.getD j ByteArray.empty = a
    · rw [addE_same hyes he]
      exact ⟨j, rfl, hj, hyes, he⟩
    · rw [addE_other hyes he] at h
      cases h
theorem addE_err {l : List ByteArray} {a : ByteArray} (hl : l.length < 1000) (h : (addE l a).2.2 ≠ 0) : (addE l a).2.2 = 8 := by
  rcases findE_cases l (digE a) with hno | ⟨j, hj, hyes⟩
  · rw [addE_new hno hl] at h; exact absurd rfl h
  · by_cases he : l.getD j ByteArray.empty = a
    · rw [addE_same hyes he] at h; exact absurd rfl h
    · rw [addE_other hyes he]
theorem digE_at {s : List ByteArray} {j : Nat} (h : j < s.length) : (digsE s).getD j D.zero = digE (s.getD j ByteArray.empty) := by
  unfold digsE
  simp [List.getD, h]
set_option maxRecDepth 100000 in
theorem s_storeHolds (l : List ByteArray) (a : ByteArray) (hz : ∀ s ∈ l, s.size ≤ maxLen) : Spec (Ctx.mk Tryd.prog globX (0 + 1) Places) 20 [.agg [.sl .any (ssP l)], .v (.string a)] [] (.v (.bool true)) [] := by
  refine spec_of_bodyL CX_mixed CX_gpk Tryd.func20 rfl 115 0 rfl rfl rfl rfl ?_
  refine go_ ?_
  with_reducible apply run_y
  exact want_
  · intro K hK
    refine ev_ ?_
    refine vcCall_plain (s_small42 l hz) (by kernel_rfl) ?_
    refine ev_ ?_
    exact hK
  refine go_ ?_
  cases hb : (fewE l 20 60 && rightE l)
  · skip
    refine go_ ?_
    with_reducible apply run_y
    exact want_
    · intro K hK
      refine ev_ ?_
      refine vcCall_plain (s_awake42) (by kernel_rfl) ?_
      refine ev_ ?_
      exact hK
    refine go_ ?_
    refine ev_ ?_
    exact .mk (vb_eq (by simp)) trivial
  · skip
    refine go_ ?_
    first | refine run_b rfl rfl rfl (fun h => ?_) (fun h => ?_) | refine c_cond rfl (fun h => ?_) (fun h => ?_)
    · skip
      refine go_ ?_
      with_reducible apply run_y
      exact want_
      · intro K hK
        refine ev_ ?_
        refine vcCall_plain (s_awake42) (by kernel_rfl) ?_
        refine ev_ ?_
        exact hK
      refine go_ ?_
      refine ev_ ?_
      exact .mk (vb_eq (by simp)) trivial
    · obtain ⟨h1, h2⟩ := fewE_spec (Bool.and_eq_true_iff.1 hb).1
      have hs : small l := fun s hs => Nat.le_trans (h2 s hs) (by omega)
      have ha : a.size ≤ 60 := by simp at h; omega
      have hl := addE_len l a
      have hsm : small (addE l a).1 := addE_small2 hs (by omega)
      refine go_ ?_
      with_reducible apply run_y
      exact want_
      · intro K hK
        refine ev_ ?_
        refine vcCall_plain (s_add l a (by omega) hs (by omega)) (by kernel_rfl) ?_
        refine ev_ ?_
        exact hK
      refine go_ ?_
      first | refine run_b rfl rfl rfl (fun he => ?_) (fun he => ?_) | refine c_cond rfl (fun he => ?_) (fun he => ?_)
      · have he8 := addE_err (l := l) (a := a) (by omega) (by simpa using he)
        refine go_ ?_
        with_reducible apply run_y
        exact want_
        · intro K hK
          refine ev_ ?_
          refine vcCall_plain (s_awake42) (by kernel_rfl) ?_
          refine ev_ ?_
          exact hK
        refine go_ ?_
        rw [he8]
        refine ev_ ?_
        exact .mk (vb_eq (by simp)) trivial
      · have e0 : (addE l a).2.2 = 0 := by simpa using he
        obtain ⟨j, e1, e2, e3, e4⟩ := addE_ok e0
        have hex := addE_more e0
        refine go_ ?_
        generalize (addE l a).1 = s at *
        rw [e0, e1]
        clear e0 e1 he
        have g1 : getE s (digE a) = (a, 0) := by
          unfold getE; rw [e3, if_neg (by omega), Int.toNat_natCast, e4]
        have g2 : sproveE s (digE a) = ((j : Int), wayE noneE (digsE s) j, 0) := by
          unfold sproveE; rw [e3, if_neg (by omega), Int.toNat_natCast]
        have g3 : addE s a = (s, (j : Int), 0) := addE_same e3 e4
        have hdl : (digsE s).length = s.length := List.length_map _
        have g4 : checkE (rootE noneE (digsE s)) ((ssP s).length : Int) (j : Int) (digE a) (wayE noneE (digsE s) j) = true := by
          rw [ssP_len, checkE_in (by omega) e2, ← mcheck_rcheck]
          have := mcheck_way noneE (digsE s) j (by omega)
          rw [hdl, digE_at e2, e4] at this
          exact this
        with_reducible apply run_y
        exact want_
        · intro K hK
          refine ev_ ?_
          refine vcCall_plain (s_rof a (by omega)) (by kernel_rfl) ?_
          refine ev_ ?_
          exact hK
        refine go_ ?_
        with_reducible apply run_y
        exact want_
        · intro K hK
          refine ev_ ?_
          refine vcCall_plain (s_get s (digE a) (by omega) hsm) (by kernel_rfl) ?_
          refine ev_ ?_
          exact hK
        refine go_ ?_
        rw [g1]
        refine go_ ?_
        with_reducible apply run_y
        exact want_
        · intro K hK
          refine ev_ ?_
          refine vcCall_plain (s_sprove s (digE a) (by omega) hsm) (by kernel_rfl) ?_
          refine ev_ ?_
          exact hK
        refine go_ ?_
        rw [g2]
        refine go_ ?_
        with_reducible apply run_y
        exact want_
        · intro K hK
          refine ev_ ?_
          refine vcCall_plain (s_add s a (by omega) hsm (by omega)) (by kernel_rfl) ?_
          refine ev_ ?_
          exact hK
        refine go_ ?_
        rw [g3]
        refine go_ ?_
        with_reducible apply run_y
        exact want_
        · intro K hK
          refine ev_ ?_
          refine vcCall_plain (s_awake42) (by kernel_rfl) ?_
          refine ev_ ?_
          exact hK
        refine go_ ?_
        with_reducible apply run_y
        exact want_
        · intro K hK
          refine ev_ ?_
          refine vcCall_plain (s_sroot s (by omega) hsm) (by kernel_rfl) ?_
          refine ev_ ?_
          exact hK
        refine go_ ?_
        with_reducible apply run_y
        exact want_
        · intro K hK
          refine ev_ ?_
          refine vcCall_plain (s_rcheck (rootE noneE (digsE s)) ((ssP s).length : Int) (j : Int) (digE a) (wayE noneE (digsE s) j)) (by kernel_rfl) ?_
          refine ev_ ?_
          exact hK
        refine go_ ?_
        rw [g4]
        refine go_ ?_
        with_reducible apply run_y
        exact want_
        · intro K hK
          refine ev_ ?_
          refine vcCall_plain (s_ssame s s (by omega)) (by kernel_rfl) ?_
          refine ev_ ?_
          exact hK
        refine go_ ?_
        refine ev_ ?_
        exact .mk (vb_eq (by simp [ssP_len]; omega)) trivial
theorem storeHolds_walk (A : Option Addr) (n c : Nat) (l : List ByteArray) (a : ByteArray) (w : World) (hP : Places w) (hs : SlS w A n c l) (hz : ∀ s ∈ l, s.size ≤ maxLen) (_ : a.size ≤ maxLen) :
    Calls Tryd.prog 20 #[.agg #[.slice A n c], .string a] w fun e w' => e = .returned (.bool true) ∧ Grow w w' :=
  walk_of (s_storeHolds l a hz) hP (args2 (sl_st hs) (.v _))
end Go.Proofs.YtamllmoakgnjoaaDoor
