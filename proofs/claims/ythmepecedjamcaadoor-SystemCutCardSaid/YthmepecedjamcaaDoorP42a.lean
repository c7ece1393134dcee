import Derived.Test.YthmepecedjamcaaDoorPx
import Derived.Test.YthmepecedjamcaaDoorP4
/- store.Add and seedcornref42.Add answer addE. -/
namespace Go.Proofs.YthmepecedjamcaaDoor
open Go.RowKit
set_option linter.unnecessarySimpa false
set_option maxRecDepth 100000 in
theorem s_add (l : List ByteArray) (a : ByteArray) (hm : l.length ≤ 1000000) (hs : small l) (ha : a.size ≤ 1000000) : Spec (Ctx.mk Tryd.prog globX (0 + 1) Places) 32 [.agg [.sl .any (ssP l)], .v (.string a)] [] (.tup [.agg [.sl .any (ssP (addE l a).1)], .v (.int .i64 (addE l a).2.1), .v (.int .i64 (addE l a).2.2)]) [] := by
  refine spec_of_bodyL CX_mixed CX_gpk Tryd.func32 rfl 41 0 rfl rfl rfl rfl ?_
  refine go_ ?_
  with_reducible apply run_y
  exact want_
  · intro K hK
    refine ev_ ?_
    refine vcCall_plain (s_of a ha) (by kernel_rfl) ?_
    refine ev_ ?_
    exact hK
  refine go_ ?_
  with_reducible apply run_y
  exact want_
  · intro K hK
    refine ev_ ?_
    refine vcCall_plain (s_find l (digE a) hm hs) (by kernel_rfl) ?_
    refine ev_ ?_
    exact hK
  refine go_ ?_
  rcases findE_cases l (digE a) with hno | ⟨j, hj, hyes⟩
  · rw [hno]
    refine go_ ?_
    first | refine run_b rfl rfl rfl (fun h => ?_) (fun h => ?_) | refine c_cond rfl (fun h => ?_) (fun h => ?_)
    · skip
      refine go_ ?_
      refine ev_ ?_
      exact .mk (by rw [addE_full hno (by simp [ssP_len] at h; omega)]; rfl) trivial
    · have hl : l.length < 1000 := by simp [ssP_len] at h; omega
      refine go_ ?_
      with_reducible apply run_y
      exact want_
      · intro K hK
        refine ev_ ?_
        refine ⟨0, _, ssP (l), rfl, rfl, rfl, rfl, Nat.zero_le _, Nat.le_refl _, ⟨_, _, rfl, rfl, .inl rfl⟩, ssP_all (l), ?_⟩
        refine ev_ ?_
        exact hK
      refine go_ ?_
      with_reducible apply run_y
      exact want_
      · intro K hK
        refine ev_ ?_
        refine ⟨ssP (l ++ [a]), ssP_app (l) ([a]), appOk_ss (l := l) (l' := [a]) rfl rfl rfl (by simp; omega), ?_⟩
        refine ev_ ?_
        exact hK
      refine go_ ?_
      refine ev_ ?_
      exact .mk (by rw [addE_new hno hl, ← ssP_len l]; rfl) trivial
  · rw [hyes]
    have hge : decide ((j : Int) ≥ 0) = true := by simp
    refine go_ ?_
    first | refine run_b rfl rfl rfl (fun h => ?_) (fun h => ?_) | refine c_cond rfl (fun h => ?_) (fun h => ?_)
    · skip
      refine go_ ?_
      refine ev_ ?_
      exact .mk (by rw [addE_other hyes (by simpa using h)]; rfl) trivial
    · skip
      refine go_ ?_
      refine ev_ ?_
      exact .mk (by rw [addE_same hyes (by simpa using h)]; rfl) trivial
end Go.Proofs.YthmepecedjamcaaDoor
/- seedcornref42.Same tells whether two stores are alike. -/
namespace Go.Proofs.YthmepecedjamcaaDoor
open Go.RowKit
set_option linter.unnecessarySimpa false
set_option maxRecDepth 100000 in
theorem s_same42 (a b : List ByteArray) (hn : a.length < 1000000) : Spec (Ctx.mk Tryd.prog globX (0 + 1) Places) 34 [.agg [.sl .any (ssP a)], .agg [.sl .any (ssP b)]] [] (.v (.bool (decide (a = b)))) [] := by
  refine spec_of_bodyL CX_mixed CX_gpk Tryd.func34 rfl 31 0 rfl rfl rfl rfl ?_
  refine go_ ?_
  first | refine run_b rfl rfl rfl (fun h => ?_) (fun h => ?_) | refine c_cond rfl (fun h => ?_) (fun h => ?_)
  · skip
    refine go_ ?_
    have hne : a ≠ b := fun e => by subst e; simp at h
    refine ev_ ?_
    exact .mk (by rw [decide_eq_false hne]; rfl) trivial
  · have hl : a.length = b.length := by simp [ssP_len] at h; omega
    refine go_ ?_
    refine c_loop (fun k l m h => ∃ j : Nat, j ≤ a.length ∧ k = a.length - j ∧ l = [.top, .top, .ptr 1 0, .ptr 2 0, .v (.bool false), .v (.int .i64 (j : Int))] ++ List.replicate 25 .top ∧ m = 3 ∧ h = [(1, .cells [.sl .any (ssP a)]), (2, .cells [.sl .any (ssP b)])] ∧ ∀ i, i < j → a.getD i ByteArray.empty = b.getD i ByteArray.empty)
      ⟨_, _, _, _, ?_, ?_, ⟨0, by omega, rfl, rfl, rfl, rfl, fun i hi => by omega⟩⟩ ?_
    · rfl
    · skip
      exact sub_
    · rintro k l m h hlen ⟨j, hj, rfl, rfl, rfl, rfl, hall⟩
      refine go_ ?_
      first | refine run_b rfl rfl rfl (fun h => ?_) (fun h => ?_) | refine c_cond rfl (fun h => ?_) (fun h => ?_)
      · have hlt : j < a.length := by simp [ssP_len] at h; omega
        have hlt' : j < b.length := by omega
        refine go_ ?_
        first | refine run_b rfl rfl rfl (fun h => ?_) (fun h => ?_) | refine c_cond rfl (fun h => ?_) (fun h => ?_)
        · skip
          refine go_ ?_
          have hne : a ≠ b := fun e => by subst e; simp at h
          refine ev_ ?_
          exact .mk (by rw [decide_eq_false hne]; rfl) trivial
        · skip
          refine go_ ?_
          refine c_round ⟨_, _, _, _, ?_, ?_, ?_, ⟨j + 1, by omega, rfl, rfl, rfl, rfl, fun i hi => ?_⟩⟩
          · omega
          · rfl
          · skip
            exact sub_
          · by_cases hij : i < j
            · exact hall i hij
            · have : i = j := by omega
              subst this
              simpa using h
      · have hge : ¬ j < a.length := by simp [ssP_len] at h; omega
        refine go_ ?_
        have he : a = b := List.ext_getElem hl fun i h1 h2 => by
          have := hall i (by omega)
          simpa [List.getD, h1, h2] using this
        refine ev_ ?_
        exact .mk (by rw [decide_eq_true he]; rfl) trivial
end Go.Proofs.YthmepecedjamcaaDoor
/- The laws of store.Add. -/
namespace Go.Proofs.YthmepecedjamcaaDoor
open Go.RowKit
set_option linter.unnecessarySimpa false
theorem add_ab : addE [] abS = ([abS], 0, 0) := rfl
theorem dig_ab : digE abS ≠ D.zero := by
  have : decide (digE abS = D.zero) = false := by kernel_rfl
  exact of_decide_eq_false this
theorem get_ab : getE [abS] (digE abS) = (abS, 0) := by
  have h : findE [abS] (digE abS) = ((0 : Nat) : Int) := findE_at (by simp) (fun q hq => by omega) rfl
  unfold getE; rw [h]; rfl
theorem get_no : getE [abS] D.zero = (ByteArray.empty, 6) := by
  have h : findE [abS] D.zero = -1 := by kernel_rfl
  unfold getE; rw [h]; rfl
theorem small_nil : small [] := by intro s hs; cases hs
theorem root_nil : rootE noneE (digsE []) = digE ByteArray.empty := by kernel_rfl
set_option maxRecDepth 100000 in
theorem s_awake42 : Spec (Ctx.mk Tryd.prog globX (0 + 1) Places) 31 [] [] (.v (.bool true)) [] := by
  refine spec_of_bodyL CX_mixed CX_gpk Tryd.func31 rfl 56 0 rfl rfl rfl rfl ?_
  refine go_ ?_
  with_reducible apply run_y
  exact want_
  · intro K hK
    refine ev_ ?_
    refine vcCall_plain (s_add [] abS (by simp) small_nil (by decide)) (by kernel_rfl) ?_
    refine ev_ ?_
    exact hK
  refine go_ ?_
  rw [add_ab]
  refine go_ ?_
  with_reducible apply run_y
  exact want_
  · intro K hK
    refine ev_ ?_
    refine vcCall_plain (s_rof abS (by decide)) (by kernel_rfl) ?_
    refine ev_ ?_
    exact hK
  refine go_ ?_
  with_reducible apply run_y
  exact want_
  · intro K hK
    refine ev_ ?_
    refine vcCall_plain (s_get [abS] (digE abS) (by simp) small_ab) (by kernel_rfl) ?_
    refine ev_ ?_
    exact hK
  refine go_ ?_
  rw [get_ab]
  refine go_ ?_
  with_reducible apply run_y
  exact want_
  · intro K hK
    refine ev_ ?_
    refine vcCall_plain (s_get [abS] D.zero (by simp) small_ab) (by kernel_rfl) ?_
    refine ev_ ?_
    exact hK
  refine go_ ?_
  rw [get_no]
  refine go_ ?_
  with_reducible apply run_y
  exact want_
  · intro K hK
    refine ev_ ?_
    refine vcCall_plain (s_sroot [] (by simp) small_nil) (by kernel_rfl) ?_
    refine ev_ ?_
    exact hK
  refine go_ ?_
  rw [root_nil]
  with_reducible apply run_y
  exact want_
  · intro K hK
    refine ev_ ?_
    refine vcCall_plain (s_rof ByteArray.empty (by decide)) (by kernel_rfl) ?_
    refine ev_ ?_
    exact hK
  refine go_ ?_
  refine go_ ?_
  with_reducible apply run_y
  exact want_
  · intro K hK
    refine ev_ ?_
    refine vcCall_plain (s_shead [abS] (by simp) small_ab) (by kernel_rfl) ?_
    refine ev_ ?_
    exact hK
  refine go_ ?_
  refine ev_ ?_
  exact .mk (by rfl) trivial
theorem addE_len (l : List ByteArray) (a : ByteArray) : (addE l a).1.length ≤ l.length + 1 := by
  unfold addE
  split
  · split <;> simp
  · split <;> simp
end Go.Proofs.YthmepecedjamcaaDoor
/- store.Prove and seedcornref42.Prove, store.Same, slices.Index and slices.Equal at the program's types. -/
namespace Go.Proofs.YthmepecedjamcaaDoor
open Go.RowKit
set_option linter.unnecessarySimpa false
def dfindE (ds : List D) (d : D) : Int := match ds.findIdx? (fun x => decide (x = d)) with | some j => (j : Int) | none => -1
theorem dfind_digs (l : List ByteArray) (d : D) : dfindE (digsE l) d = findE l d := by
  unfold dfindE findE digsE
  rw [List.findIdx?_map]
  rfl
theorem dfind_at {ds : List D} {d : D} {j : Nat} (hj : j < ds.length) (hb : ∀ q, q < j → ds.getD q D.zero ≠ d) (h : ds.getD j D.zero = d) : dfindE ds d = (j : Int) := by
  have : ds.findIdx? (fun x => decide (x = d)) = some j := by
    rw [List.findIdx?_eq_some_iff_getElem]
    refine ⟨hj, ?_, fun q hq => ?_⟩
    · rw [getD_eq hj] at h; simpa using h
    · have := hb q hq
      rw [getD_eq (by omega)] at this
      simpa using this
  unfold dfindE; rw [this]
theorem dfind_no {ds : List D} {d : D} (hb : ∀ q, q < ds.length → ds.getD q D.zero ≠ d) : dfindE ds d = -1 := by
  have : ds.findIdx? (fun x => decide (x = d)) = none := by
    rw [List.findIdx?_eq_none_iff]
    intro x hx
    obtain ⟨q, hq, rfl⟩ := List.getElem_of_mem hx
    have := hb q hq
    rw [getD_eq hq] at this
    simpa using this
  unfold dfindE; rw [this]
set_option maxRecDepth 100000 in
theorem s_equal (a b : List ByteArray) (hn : a.length ≤ 1000000) : Spec (Ctx.mk Tryd.prog globX (0 + 1) Places) 37 [.sl .any (ssP a), .sl .any (ssP b)] [] (.v (.bool (decide (a = b)))) [] := by
  refine spec_of_bodyL CX_mixed CX_gpk Tryd.func37 rfl 26 0 rfl rfl rfl rfl ?_
  refine go_ ?_
  first | refine run_b rfl rfl rfl (fun h => ?_) (fun h => ?_) | refine c_cond rfl (fun h => ?_) (fun h => ?_)
  · skip
    refine go_ ?_
    have hne : a ≠ b := fun e => by subst e; simp at h
    refine ev_ ?_
    exact .mk (by rw [decide_eq_false hne]; rfl) trivial
  · have hl : a.length = b.length := by simp [ssP_len] at h; omega
    refine go_ ?_
    refine c_loop (fun k q m h => ∃ j : Nat, j ≤ a.length ∧ k = a.length - j ∧ q = [.sl .any (ssP a), .sl .any (ssP b), .top, .top, .v (.bool false), .top, .top, .top, .top, .top, .top, .top, .v (.int .i64 ((ssP a).length : Int)), .v (.int .i64 (j : Int))] ++ List.replicate 12 .top ∧ m = 1 ∧ h = [] ∧ ∀ i, i < j → a.getD i ByteArray.empty = b.getD i ByteArray.empty)
      ⟨_, _, _, _, ?_, ?_, ⟨0, by omega, rfl, rfl, rfl, rfl, fun i hi => by omega⟩⟩ ?_
    · rfl
    · skip
      exact sub_
    · rintro k q m h hlen ⟨j, hj, rfl, rfl, rfl, rfl, hall⟩
      clear hlen
      refine go_ ?_
      first | refine run_b rfl rfl rfl (fun h => ?_) (fun h => ?_) | refine c_cond rfl (fun h => ?_) (fun h => ?_)
      · have hlt : j < a.length := by simpa [ssP_len] using h
        have hlt' : j < b.length := by omega
        refine go_ ?_
        first | refine run_b rfl rfl rfl (fun h2 => ?_) (fun h2 => ?_) | refine c_cond rfl (fun h2 => ?_) (fun h2 => ?_)
        · skip
          refine go_ ?_
          have hne : a ≠ b := fun e => by subst e; simp at h2
          refine ev_ ?_
          exact .mk (by rw [decide_eq_false hne]; rfl) trivial
        · skip
          refine go_ ?_
          refine c_round ⟨_, _, _, _, ?_, ?_, ?_, ⟨j + 1, by omega, rfl, rfl, rfl, rfl, fun i hi => ?_⟩⟩
          · omega
          · rfl
          · skip
            exact sub_
          · by_cases hij : i < j
            · exact hall i hij
            · obtain rfl : i = j := by omega
              simpa using h2
      · have hge : ¬ j < a.length := by simpa [ssP_len] using h
        refine go_ ?_
        have he : a = b := List.ext_getElem hl fun i h1 h2 => by
          have := hall i (by omega)
          simpa [List.getD, h1, h2] using this
        refine ev_ ?_
        exact .mk (by rw [decide_eq_true he]; rfl) trivial
set_option maxRecDepth 100000 in
theorem s_ssame (a b : List ByteArray) (hn : a.length ≤ 1000000) : Spec (Ctx.mk Tryd.prog globX (0 + 1) Places) 18 [.agg [.sl .any (ssP a)], .agg [.sl .any (ssP b)]] [] (.v (.bool (decide (a = b)))) [] := by
  refine spec_of_bodyL CX_mixed CX_gpk Tryd.func18 rfl 10 0 rfl rfl rfl rfl ?_
  refine go_ ?_
  with_reducible apply run_y
  exact want_
  · intro K hK
    refine ev_ ?_
    refine vcCall_plain (s_equal a b hn) (by kernel_rfl) ?_
    refine ev_ ?_
    exact hK
  refine go_ ?_
  refine ev_ ?_
  exact .mk (by rfl) trivial
def sproveE (l : List ByteArray) (d : D) : Int × List D × Int := if findE l d < 0 then (0, [], 6) else (findE l d, wayE noneE (digsE l) (findE l d).toNat, 0)
end Go.Proofs.YthmepecedjamcaaDoor
/- The laws StoreProves and StoreHolds. -/
namespace Go.Proofs.YthmepecedjamcaaDoor
open Go.RowKit
set_option linter.unnecessarySimpa false
end Go.Proofs.YthmepecedjamcaaDoor
/- The law StoreHolds. -/
namespace Go.Proofs.YthmepecedjamcaaDoor
open Go.RowKit
set_option linter.unnecessarySimpa false
theorem addE_small2 {l : List ByteArray} {a : ByteArray} (hs : small l) (ha : a.size ≤ 1000000) : small (addE l a).1 := by
  unfold addE
  intro s h
  split at h <;> split at h <;> simp at h
  · exact hs s h
  · rcases h with h | rfl
    · exact hs s h
    · exact ha
theorem addE_more {l : List ByteArray} {a : ByteArray} (h : (addE l a).2.2 = 0) : l.length ≤ (addE l a).1.length := by
  unfold addE at *
  split at h <;> (rename_i h1; first | rw [if_pos h1] | rw [if_neg h1]) <;> split at h <;> (rename_i h2; first | rw [if_pos h2] | rw [if_neg h2]) <;> simp at h ⊢
theorem findE_app {l : List ByteArray} {a : ByteArray} (h : findE l (digE a) = -1) : findE (l ++ [a]) (digE a) = (l.length : Int) := by
  refine findE_at (by simp) (fun q hq e => ?_) (by simp [List.getD])
  rcases findE_cases l (digE a) with hno | ⟨j, hj, hyes⟩
  · unfold findE at hno
    split at hno
    · omega
    · rename_i hn
      rw [List.findIdx?_eq_none_iff] at hn
      have hq' : q < l.length := hq
      have := hn (l.getD q ByteArray.empty) (by rw [getD_eq hq']; exact List.getElem_mem hq')
      rw [show (l ++ [a]).getD q ByteArray.empty = l.getD q ByteArray.empty by simp [List.getD, List.getElem?_append_left hq']] at e
      exact absurd e (of_decide_eq_false this)
  · omega
theorem addE_ok {l : List ByteArray} {a : ByteArray} (h : (addE l a).2.2 = 0) : ∃ j : Nat, (addE l a).2.1 = j ∧ j < (addE l a).1.length ∧ findE (addE l a).1 (digE a) = j ∧ (addE l a).1.getD j ByteArray.empty = a := by
  rcases findE_cases l (digE a) with hno | ⟨j, hj, hyes⟩
  · by_cases hl : l.length < 1000
    · rw [addE_new hno hl]
      exact ⟨l.length, rfl, by simp, findE_app hno, by simp [List.getD]⟩
    · rw [addE_full hno (by omega)] at h
      cases h
  · by_cases he : l.getD j ByteArray.empty = a
    · rw [addE_same hyes he]
      exact ⟨j, rfl, hj, hyes, he⟩
    · rw [addE_other hyes he] at h
      cases h
theorem addE_err {l : List ByteArray} {a : ByteArray} (hl : l.length < 1000) (h : (addE l a).2.2 ≠ 0) : (addE l a).2.2 = 8 := by
  rcases findE_cases l (digE a) with hno | ⟨j, hj, hyes⟩
  · rw [addE_new hno hl] at h; exact absurd rfl h
  · by_cases he : l.getD j ByteArray.empty = a
    · rw [addE_same hyes he] at h; exact absurd rfl h
    · rw [addE_other hyes he]
theorem digE_at {s : List ByteArray} {j : Nat} (h : j < s.length) : (digsE s).getD j D.zero = digE (s.getD j ByteArray.empty) := by
  unfold digsE
  simp [List.getD, h]
end Go.Proofs.YthmepecedjamcaaDoor
