import Derived.Test.YtddggjmfplohkaaDoorTi
import Derived.Test.YtddggjmfplohkaaDoorTia
import Derived.Test.YtddggjmfplohkaaDoorTh
/- Whether a statement may be, the document's; rows of statements; all levels. -/
namespace Go.Proofs.YtddggjmfplohkaaDoor
open Go.RowKit
set_option linter.unnecessarySimpa false
theorem s_rT (lv lv1 : Int) (r : Nat) (k : Int) (s : ByteArray) (es : List Ex) (t f : List Sm) (hlv : decide (lv > 24) = false) (hw : IntKind.i64.wrap (lv + 1) = lv1) : TellsT lv lv1 r k s es t f := by
  by_cases ha : (k ≠ 4 ∧ f.length ≠ 0) ∨ (k ≠ 4 ∧ k ≠ 5 ∧ t.length ≠ 0)
  · exact s_rT_A lv lv1 r k s es t f hlv ha
  by_cases h1 : k = 1
  · exact s_rT_1 lv lv1 r k s es t f hlv hw h1 ha
  by_cases h2 : k = 2
  · exact s_rT_2 lv lv1 r k s es t f hlv hw h2 ha
  by_cases h3 : k = 3
  · exact s_rT_3 lv lv1 r k s es t f hlv hw h3 ha
  by_cases h4 : k = 4
  · exact s_rT_4 lv lv1 r k s es t f hlv hw h4 ha
  by_cases h5 : k = 5
  · exact s_rT_5 lv lv1 r k s es t f hlv hw h5 ha
  by_cases h6 : k = 6
  · exact s_rT_6 lv lv1 r k s es t f hlv hw h6 ha
  by_cases h7 : k = 7
  · exact s_rT_7 lv lv1 r k s es t f hlv hw h7 ha
  exact s_rT_0 lv lv1 r k s es t f hlv hw ⟨h1, h2, h3, h4, h5, h6, h7⟩ ha
theorem all_notS {l : List Sm} {r j : Nat} {e : Sm} (hj : j < l.length) (he : l[j] = e) (h : rS r e = false) : (l.all fun e => rS r e) = false := by
  rw [List.all_eq_false]
  exact ⟨l[j], List.getElem_mem hj, by rw [he, h]; decide⟩
theorem all_yesS {l : List Sm} {r : Nat} (h : ∀ i (hi : i < l.length), rS r l[i] = true) : (l.all fun e => rS r e) = true := by
  rw [List.all_eq_true]
  intro b hb
  obtain ⟨i, hi, rfl⟩ := List.getElem_of_mem hb
  exact h i hi
set_option maxHeartbeats 4000000 in
set_option maxRecDepth 100000 in
theorem s_rTs (lv : Int) (r : Nat) (l : List Sm) (hl : l.length ≤ 1000000) (ih : ∀ e ∈ l, Spec (Ctx.mk Tryd.prog globT 7 LaidT) 60 [.agg (smC e), .v (.int .i64 lv)] [] (.v (.bool (rS r e))) []) : Spec (Ctx.mk Tryd.prog globT 7 LaidT) 33 [.sl .any (smsC l), .v (.int .i64 lv)] [] (.v (.bool (l.all fun e => rS r e))) [] := by
  refine spec_of_bodyL CX_mixed CX_gpk Tryd.func33 rfl 19 0 rfl rfl rfl rfl ?_
  refine go_ ?_
  refine c_loop (fun k q m h => ∃ j : Nat, j ≤ l.length ∧ (∀ i (hi : i < l.length), i < j → rS r l[i] = true) ∧ k = l.length - j ∧ q = [.sl .any (smsC l), .v (.int .i64 lv), .top, .top, .top, .v (.int .i64 (j : Int))] ++ List.replicate (19 - 6) .top ∧ m = 1 ∧ h = [])
    ⟨_, _, _, _, ?_, ?_, ⟨0, Nat.zero_le _, fun i hi h => by omega, rfl, rfl, rfl, rfl⟩⟩ ?_
  · rfl
  · skip
    exact sub_
  rintro k q m h hlen ⟨j, hj, hn, rfl, rfl, rfl, rfl⟩
  clear hlen
  refine go_ ?_
  first | refine run_b rfl rfl rfl (fun hb => ?_) (fun hb => ?_) | refine c_cond rfl (fun hb => ?_) (fun hb => ?_)
  · have hj' : j < l.length := by have := of_decide_eq_true hb; rw [smsC_len] at this; omega
    have hw2 : IntKind.i64.wrap ((j : Int) + 1) = ((j + 1 : Nat) : Int) := by rw [wrap64 (by omega) (by omega)]; omega
    have hat := smsC_at' hj'
    have hI := ih _ (List.getElem_mem hj')
    have hnot := fun h => all_notS (r := r) hj' rfl h
    have hyes : rS r l[j] = true → ∀ i (hi : i < l.length), i < j + 1 → rS r l[i] = true := fun h i hi hij => by
      by_cases e : i = j
      · subst e; exact h
      · exact hn i hi (by omega)
    generalize l[j] = e at *
    obtain ⟨ek, es, ee, et, ef⟩ := e
    by_cases he : rS r (.mk ek es ee et ef) = true
    · have g1 : (!rS r (.mk ek es ee et ef)) = false := by rw [he]; rfl
      refine go_ ?_
      with_reducible apply run_y
      exact want_
      · intro K hK
        refine ev_ ?_
        refine ⟨j, _, rfl, hat, rfl, ?_⟩
        refine ev_ ?_
        exact hK
      refine go_ ?_
      with_reducible apply run_y
      exact want_
      · intro K hK
        refine ev_ ?_
        refine vcCall_plain (hI) (by kernel_rfl) ?_
        refine ev_ ?_
        exact hK
      refine go_ ?_
      rw [hw2]
      refine c_round ⟨_, _, _, _, ?_, ?_, ?_, ⟨j + 1, by omega, hyes he, rfl, rfl, rfl, rfl⟩⟩
      · omega
      · rfl
      · skip
        exact sub_
    · have g1 : (!rS r (.mk ek es ee et ef)) = true := by simpa using he
      refine go_ ?_
      with_reducible apply run_y
      exact want_
      · intro K hK
        refine ev_ ?_
        refine ⟨j, _, rfl, hat, rfl, ?_⟩
        refine ev_ ?_
        exact hK
      refine go_ ?_
      with_reducible apply run_y
      exact want_
      · intro K hK
        refine ev_ ?_
        refine vcCall_plain (hI) (by kernel_rfl) ?_
        refine ev_ ?_
        exact hK
      refine go_ ?_
      refine ev_ ?_
      exact .mk (vb_eq (by rw [hnot (by simpa using he)])) trivial
  have hj' : j = l.length := by have := of_decide_eq_false hb; rw [smsC_len] at this; omega
  subst hj'
  refine go_ ?_
  refine ev_ ?_
  exact .mk (vb_eq (by rw [all_yesS (fun i hi => hn i hi hi)])) trivial
/-- Expressions of a level, all of them. -/
theorem rX_ok : ∀ (r : Nat), r ≤ 25 → ∀ (d : Nat) (e : Ex), shrE d e → Spec (Ctx.mk Tryd.prog globT 7 LaidT) 86 [.agg (exC e), .v (.int .i64 (25 - (r : Int)))] [] (.v (.bool (rX r e))) []
  | 0, _, _, e, _ => s_rE_deep _ (decide_eq_true (by omega)) e
  | r + 1, hr, d, .mk k o n s ks, h => by
    cases d with
    | zero => exact h.elim
    | succ d =>
      have hi : ∀ e ∈ ks, Spec (Ctx.mk Tryd.prog globT 7 LaidT) 86 [.agg (exC e), .v (.int .i64 (25 - (r : Int)))] [] (.v (.bool (rX r e))) [] := fun e he => rX_ok r (by omega) d e (h.2 e he)
      have hl : ks.length ≤ 1000 := h.1
      have hx := s_rEs (25 - (r : Int)) r ks (by omega) hi
      have e1 : (25 : Int) - ((r + 1 : Nat) : Int) = 24 - (r : Int) := by omega
      rw [e1]
      exact s_rE (24 - (r : Int)) (25 - (r : Int)) r k o n s ks (decide_eq_false (by omega)) (by rw [wrap64 (by omega) (by omega)]; omega) hx
theorem rXs_ok (r : Nat) (hr : r ≤ 25) (d : Nat) (l : List Ex) (hl : l.length ≤ 1000) (h : ∀ e ∈ l, shrE d e) : Spec (Ctx.mk Tryd.prog globT 7 LaidT) 77 [.sl .any (exsC l), .v (.int .i64 (25 - (r : Int)))] [] (.v (.bool (l.all fun e => rX r e))) [] :=
  s_rEs _ r l (by omega) fun e he => rX_ok r hr d e (h e he)
theorem rS_ok : ∀ (r : Nat), r ≤ 25 → ∀ (d : Nat) (e : Sm), shrS d e → Spec (Ctx.mk Tryd.prog globT 7 LaidT) 60 [.agg (smC e), .v (.int .i64 (25 - (r : Int)))] [] (.v (.bool (rS r e))) []
  | 0, _, _, e, _ => s_rT_deep _ (decide_eq_true (by omega)) e
  | r + 1, hr, d, .mk k s es t f, h => by
    cases d with
    | zero => exact h.elim
    | succ d =>
      obtain ⟨⟨h1, h2⟩, ⟨h3, h4⟩, h5, h6⟩ := h
      have h1 : es.length ≤ 1000 := h1
      have h3 : t.length ≤ 1000 := h3
      have h5 : f.length ≤ 1000 := h5
      have hx := rXs_ok r (by omega) d es h1 h2
      have ht := s_rTs (25 - (r : Int)) r t (by omega) fun e he => rS_ok r (by omega) d e (h4 e he)
      have hf := s_rTs (25 - (r : Int)) r f (by omega) fun e he => rS_ok r (by omega) d e (h6 e he)
      have e1 : (25 : Int) - ((r + 1 : Nat) : Int) = 24 - (r : Int) := by omega
      rw [e1]
      exact s_rT (24 - (r : Int)) (25 - (r : Int)) r k s es t f (decide_eq_false (by omega)) (by rw [wrap64 (by omega) (by omega)]; omega) hx ht hf
theorem rSs_ok (r : Nat) (hr : r ≤ 25) (d : Nat) (l : List Sm) (hl : l.length ≤ 1000) (h : ∀ e ∈ l, shrS d e) : Spec (Ctx.mk Tryd.prog globT 7 LaidT) 33 [.sl .any (smsC l), .v (.int .i64 (25 - (r : Int)))] [] (.v (.bool (l.all fun e => rS r e))) [] :=
  s_rTs _ r l (by omega) fun e he => rS_ok r hr d e (h e he)
end Go.Proofs.YtddggjmfplohkaaDoor
