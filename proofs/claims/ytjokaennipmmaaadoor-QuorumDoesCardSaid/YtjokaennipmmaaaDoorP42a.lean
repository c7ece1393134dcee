import Derived.Test.YtjokaennipmmaaaDoorPx
import Derived.Test.YtjokaennipmmaaaDoorP4
/- store.Add and seedcornref42.Add answer addE. -/
namespace Go.Proofs.YtjokaennipmmaaaDoor
open Go.RowKit
set_option linter.unnecessarySimpa false
end Go.Proofs.YtjokaennipmmaaaDoor
/- seedcornref42.Same tells whether two stores are alike. -/
namespace Go.Proofs.YtjokaennipmmaaaDoor
open Go.RowKit
set_option linter.unnecessarySimpa false
end Go.Proofs.YtjokaennipmmaaaDoor
/- The laws of store.Add. -/
namespace Go.Proofs.YtjokaennipmmaaaDoor
open Go.RowKit
set_option linter.unnecessarySimpa false
theorem add_ab : addE [] abS = ([abS], 0, 0) := rfl
theorem dig_ab : digE abS ≠ D.zero := by
  have : decide (digE abS = D.zero) = false := by kernel_rfl
  exact of_decide_eq_false this
theorem get_ab : getE [abS] (digE abS) = (abS, 0) := by
  have h : findE [abS] (digE abS) = ((0 : Nat) : Int) := findE_at (by simp) (fun q hq => by omega) rfl
  unfold getE; rw [h]; rfl
theorem get_no : getE [abS] D.zero = (ByteArray.empty, 6) := by
  have h : findE [abS] D.zero = -1 := by kernel_rfl
  unfold getE; rw [h]; rfl
theorem small_nil : small [] := by intro s hs; cases hs
theorem root_nil : rootE noneE (digsE []) = digE ByteArray.empty := by kernel_rfl
theorem addE_len (l : List ByteArray) (a : ByteArray) : (addE l a).1.length ≤ l.length + 1 := by
  unfold addE
  split
  · split <;> simp
  · split <;> simp
end Go.Proofs.YtjokaennipmmaaaDoor
/- store.Prove and seedcornref42.Prove, store.Same, slices.Index and slices.Equal at the program's types. -/
namespace Go.Proofs.YtjokaennipmmaaaDoor
open Go.RowKit
set_option linter.unnecessarySimpa false
def dfindE (ds : List D) (d : D) : Int := match ds.findIdx? (fun x => decide (x = d)) with | some j => (j : Int) | none => -1
theorem dfind_digs (l : List ByteArray) (d : D) : dfindE (digsE l) d = findE l d := by
  unfold dfindE findE digsE
  rw [List.findIdx?_map]
  rfl
theorem dfind_at {ds : List D} {d : D} {j : Nat} (hj : j < ds.length) (hb : ∀ q, q < j → ds.getD q D.zero ≠ d) (h : ds.getD j D.zero = d) : dfindE ds d = (j : Int) := by
  have : ds.findIdx? (fun x => decide (x = d)) = some j := by
    rw [List.findIdx?_eq_some_iff_getElem]
    refine ⟨hj, ?_, fun q hq => ?_⟩
    · rw [getD_eq hj] at h; simpa using h
    · have := hb q hq
      rw [getD_eq (by omega)] at this
      simpa using this
  unfold dfindE; rw [this]
theorem dfind_no {ds : List D} {d : D} (hb : ∀ q, q < ds.length → ds.getD q D.zero ≠ d) : dfindE ds d = -1 := by
  have : ds.findIdx? (fun x => decide (x = d)) = none := by
    rw [List.findIdx?_eq_none_iff]
    intro x hx
    obtain ⟨q, hq, rfl⟩ := List.getElem_of_mem hx
    have := hb q hq
    rw [getD_eq hq] at this
    simpa using this
  unfold dfindE; rw [this]
def sproveE (l : List ByteArray) (d : D) : Int × List D × Int := if findE l d < 0 then (0, [], 6) else (findE l d, wayE noneE (digsE l) (findE l d).toNat, 0)
end Go.Proofs.YtjokaennipmmaaaDoor
/- The laws StoreProves and StoreHolds. -/
namespace Go.Proofs.YtjokaennipmmaaaDoor
open Go.RowKit
set_option linter.unnecessarySimpa false
end Go.Proofs.YtjokaennipmmaaaDoor
/- The law StoreHolds. -/
namespace Go.Proofs.YtjokaennipmmaaaDoor
open Go.RowKit
set_option linter.unnecessarySimpa false
theorem addE_small2 {l : List ByteArray} {a : ByteArray} (hs : small l) (ha : a.size ≤ 1000000) : small (addE l a).1 := by
  unfold addE
  intro s h
  split at h <;> split at h <;> simp at h
  · exact hs s h
  · rcases h with h | rfl
    · exact hs s h
    · exact ha
theorem addE_more {l : List ByteArray} {a : ByteArray} (h : (addE l a).2.2 = 0) : l.length ≤ (addE l a).1.length := by
  unfold addE at *
  split at h <;> (rename_i h1; first | rw [if_pos h1] | rw [if_neg h1]) <;> split at h <;> (rename_i h2; first | rw [if_pos h2] | rw [if_neg h2]) <;> simp at h ⊢
theorem findE_app {l : List ByteArray} {a : ByteArray} (h : findE l (digE a) = -1) : findE (l ++ [a]) (digE a) = (l.length : Int) := by
  refine findE_at (by simp) (fun q hq e => ?_) (by simp [List.getD])
  rcases findE_cases l (digE a) with hno | ⟨j, hj, hyes⟩
  · unfold findE at hno
    split at hno
    · omega
    · rename_i hn
      rw [List.findIdx?_eq_none_iff] at hn
      have hq' : q < l.length := hq
      have := hn (l.getD q ByteArray.empty) (by rw [getD_eq hq']; exact List.getElem_mem hq')
      rw [show (l ++ [a]).getD q ByteArray.empty = l.getD q ByteArray.empty by simp [List.getD, List.getElem?_append_left hq']] at e
      exact absurd e (of_decide_eq_false this)
  · omega
theorem addE_ok {l : List ByteArray} {a : ByteArray} (h : (addE l a).2.2 = 0) : ∃ j : Nat, (addE l a).2.1 = j ∧ j < (addE l a).1.length ∧ findE (addE l a).1 (digE a) = j ∧ (addE l a).1.getD j ByteArray.empty = a := by
  rcases findE_cases l (digE a) with hno | ⟨j, hj, hyes⟩
  · by_cases hl : l.length < 1000
    · rw [addE_new hno hl]
      exact ⟨l.length, rfl, by simp, findE_app hno, by simp [List.getD]⟩
    · rw [addE_full hno (by omega)] at h
      cases h
  · by_cases he : l.getD j ByteArray.empty = a
    · rw [addE_same hyes he]
      exact ⟨j, rfl, hj, hyes, he⟩
    · rw [addE_other hyes he] at h
      cases h
theorem addE_err {l : List ByteArray} {a : ByteArray} (hl : l.length < 1000) (h : (addE l a).2.2 ≠ 0) : (addE l a).2.2 = 8 := by
  rcases findE_cases l (digE a) with hno | ⟨j, hj, hyes⟩
  · rw [addE_new hno hl] at h; exact absurd rfl h
  · by_cases he : l.getD j ByteArray.empty = a
    · rw [addE_same hyes he] at h; exact absurd rfl h
    · rw [addE_other hyes he]
theorem digE_at {s : List ByteArray} {j : Nat} (h : j < s.length) : (digsE s).getD j D.zero = digE (s.getD j ByteArray.empty) := by
  unfold digsE
  simp [List.getD, h]
end Go.Proofs.YtjokaennipmmaaaDoor
