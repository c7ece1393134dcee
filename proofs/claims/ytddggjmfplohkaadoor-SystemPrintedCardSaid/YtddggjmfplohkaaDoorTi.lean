import Derived.Test.YtddggjmfplohkaaDoorTe
import Derived.Test.YtddggjmfplohkaaDoorTg
/- Whether a statement may be, the document's. -/
namespace Go.Proofs.YtddggjmfplohkaaDoor
open Go.RowKit
set_option linter.unnecessarySimpa false
set_option maxHeartbeats 4000000 in
set_option maxRecDepth 100000 in
/-- Too deep. -/
theorem s_rT_deep (lv : Int) (hlv : decide (lv > 24) = true) (e : Sm) : Spec (Ctx.mk Tryd.prog globT 7 LaidT) 60 [.agg (smC e), .v (.int .i64 lv)] [] (.v (.bool (rS 0 e))) [] := by
  obtain ⟨k, s, es, t, f⟩ := e
  refine spec_of_bodyL CX_mixed CX_gpk Tryd.func60 rfl 110 0 rfl rfl rfl rfl ?_
  refine go_ ?_
  refine ev_ ?_
  exact .mk (vb_eq (by rfl)) trivial
set_option maxHeartbeats 4000000 in
set_option maxRecDepth 100000 in
theorem s_rT_A (lv lv1 : Int) (r : Nat) (k : Int) (s : ByteArray) (es : List Ex) (t f : List Sm) (hlv : decide (lv > 24) = false) (ha : (k ≠ 4 ∧ f.length ≠ 0) ∨ (k ≠ 4 ∧ k ≠ 5 ∧ t.length ≠ 0)) : TellsT lv lv1 r k s es t f := by
  intro _ _ _
  have hrx : rS (r + 1) (.mk k s es t f) = false := by rw [rS, if_pos ha]
  have h4 : k ≠ 4 := by omega
  have m4 : (k != 4) = true := by simpa using h4
  by_cases hf : f.length = 0
  · have h5 : k ≠ 5 ∧ t.length ≠ 0 := by omega
    have m5 : (k != 5) = true := by simpa using h5.1
    have hd : (bif k != 4 then k != 5 else false) = true := by rw [m4, m5]; rfl
    have lf : decide (((smsC f).length : Int) > 0) = false := by rw [smsC_len]; exact decide_eq_false (by omega)
    have lt : decide (((smsC t).length : Int) > 0) = true := by rw [smsC_len]; exact decide_eq_true (by omega)
    have a1 : (bif decide (lv > 24) then true else (bif k != 4 then decide (((smsC f).length : Int) > 0) else false)) = false := by rw [hlv, m4, lf]; rfl
    have a2 : (bif (bif decide (lv > 24) then true else (bif k != 4 then decide (((smsC f).length : Int) > 0) else false)) then true else (bif (bif k != 4 then k != 5 else false) then decide (((smsC t).length : Int) > 0) else false)) = true := by rw [a1, hd, lt]; rfl
    refine spec_of_bodyL CX_mixed CX_gpk Tryd.func60 rfl 110 0 rfl rfl rfl rfl ?_
    refine go_ ?_
    refine ev_ ?_
    exact .mk (vb_eq (by rw [hrx])) trivial
  · have lf : decide (((smsC f).length : Int) > 0) = true := by rw [smsC_len]; exact decide_eq_true (by omega)
    have a1 : (bif decide (lv > 24) then true else (bif k != 4 then decide (((smsC f).length : Int) > 0) else false)) = true := by rw [hlv, m4, lf]; rfl
    refine spec_of_bodyL CX_mixed CX_gpk Tryd.func60 rfl 110 0 rfl rfl rfl rfl ?_
    refine go_ ?_
    refine ev_ ?_
    exact .mk (vb_eq (by rw [hrx])) trivial
set_option maxHeartbeats 4000000 in
set_option maxRecDepth 100000 in
theorem s_rT_0 (lv lv1 : Int) (r : Nat) (k : Int) (s : ByteArray) (es : List Ex) (t f : List Sm) (hlv : decide (lv > 24) = false) (_hw : IntKind.i64.wrap (lv + 1) = lv1) (hK : k ≠ 1 ∧ k ≠ 2 ∧ k ≠ 3 ∧ k ≠ 4 ∧ k ≠ 5 ∧ k ≠ 6 ∧ k ≠ 7) (ha : ¬ ((k ≠ 4 ∧ f.length ≠ 0) ∨ (k ≠ 4 ∧ k ≠ 5 ∧ t.length ≠ 0))) : TellsT lv lv1 r k s es t f := by
  intro hX hT hF
  have q1 : (k == 1) = false := by simp only [beq_eq_false_iff_ne, ne_eq]; omega
  have q2 : (k == 2) = false := by simp only [beq_eq_false_iff_ne, ne_eq]; omega
  have q3 : (k == 3) = false := by simp only [beq_eq_false_iff_ne, ne_eq]; omega
  have q4 : (k == 4) = false := by simp only [beq_eq_false_iff_ne, ne_eq]; omega
  have q5 : (k == 5) = false := by simp only [beq_eq_false_iff_ne, ne_eq]; omega
  have q6 : (k == 6) = false := by simp only [beq_eq_false_iff_ne, ne_eq]; omega
  have q7 : (k == 7) = false := by simp only [beq_eq_false_iff_ne, ne_eq]; omega
  have m4 : (k != 4) = true := by simp only [bne_iff_ne, ne_eq]; omega
  have m5 : (k != 5) = true := by simp only [bne_iff_ne, ne_eq]; omega
  have lf : decide (((smsC f).length : Int) > 0) = false := by rw [smsC_len]; exact decide_eq_false (by omega)
  have a1 : (bif decide (lv > 24) then true else (bif k != 4 then decide (((smsC f).length : Int) > 0) else false)) = false := by rw [hlv, m4, lf]; rfl
  have hd : (bif k != 4 then k != 5 else false) = true := by rw [m4, m5]; rfl
  have lt : decide (((smsC t).length : Int) > 0) = false := by rw [smsC_len]; exact decide_eq_false (by omega)
  have a2 : (bif (bif decide (lv > 24) then true else (bif k != 4 then decide (((smsC f).length : Int) > 0) else false)) then true else (bif (bif k != 4 then k != 5 else false) then decide (((smsC t).length : Int) > 0) else false)) = false := by rw [a1, hd, lt]; rfl
  have b1 : (bif k == 1 then true else k == 2) = false := by rw [q1, q2]; rfl
  have b2 : (bif (bif k == 1 then true else k == 2) then true else k == 6) = false := by rw [b1, q6]; rfl
  have kd : fitE k es.length = false := by unfold fitE; rw [if_neg (by omega), if_neg (by omega), if_neg (by omega), if_neg (by omega)]
  refine spec_of_bodyL CX_mixed CX_gpk Tryd.func60 rfl 110 0 rfl rfl rfl rfl ?_
  refine go_ ?_
  by_cases hs : s = (⟨#[]⟩ : ByteArray)
  · have hrx : rS (r + 1) (.mk k s es t f) = (fitE k es.length && ((es.all fun e => rX r e) && ((t.all fun x => rS r x) && (f.all fun x => rS r x)))) := by rw [rS, if_neg ha, if_neg (by omega), if_pos (show s = ByteArray.empty from hs)]
    have s0 : (!decide (s = (⟨#[]⟩ : ByteArray))) = false := by rw [hs]; rfl
    have s1 : ((bif (bif k == 1 then true else k == 2) then true else k == 6) != (!decide (s = (⟨#[]⟩ : ByteArray)))) = false := by rw [b2, s0]; rfl
    have s2 : (bif ((bif (bif k == 1 then true else k == 2) then true else k == 6) != (!decide (s = (⟨#[]⟩ : ByteArray)))) then true else false) = false := by rw [s1]; rfl
    refine go_ ?_
    refine ev_ ?_
    exact .mk (vb_eq (by rw [hrx, kd]; rfl)) trivial
  · have hrx : rS (r + 1) (.mk k s es t f) = false := by rw [rS, if_neg ha, if_neg (by omega), if_neg (show ¬ s = ByteArray.empty from hs)]
    have s0 : (!decide (s = (⟨#[]⟩ : ByteArray))) = true := by simpa using hs
    have s1 : ((bif (bif k == 1 then true else k == 2) then true else k == 6) != (!decide (s = (⟨#[]⟩ : ByteArray)))) = true := by rw [b2, s0]; rfl
    refine go_ ?_
    refine ev_ ?_
    exact .mk (vb_eq (by rw [hrx])) trivial
set_option maxHeartbeats 4000000 in
set_option maxRecDepth 100000 in
theorem s_rT_2 (lv lv1 : Int) (r : Nat) (k : Int) (s : ByteArray) (es : List Ex) (t f : List Sm) (hlv : decide (lv > 24) = false) (hw : IntKind.i64.wrap (lv + 1) = lv1) (hK : k = 2) (ha : ¬ ((k ≠ 4 ∧ f.length ≠ 0) ∨ (k ≠ 4 ∧ k ≠ 5 ∧ t.length ≠ 0))) : TellsT lv lv1 r k s es t f := by
  intro hX hT hF
  have q1 : (k == 1) = false := by rw [hK]; rfl
  have q2 : (k == 2) = true := by rw [hK]; rfl
  have q3 : (k == 3) = false := by rw [hK]; rfl
  have q4 : (k == 4) = false := by rw [hK]; rfl
  have q5 : (k == 5) = false := by rw [hK]; rfl
  have q6 : (k == 6) = false := by rw [hK]; rfl
  have q7 : (k == 7) = false := by rw [hK]; rfl
  have m4 : (k != 4) = true := by rw [hK]; rfl
  have m5 : (k != 5) = true := by rw [hK]; rfl
  have lf : decide (((smsC f).length : Int) > 0) = false := by rw [smsC_len]; exact decide_eq_false (by omega)
  have a1 : (bif decide (lv > 24) then true else (bif k != 4 then decide (((smsC f).length : Int) > 0) else false)) = false := by rw [hlv, m4, lf]; rfl
  have hd : (bif k != 4 then k != 5 else false) = true := by rw [m4, m5]; rfl
  have lt : decide (((smsC t).length : Int) > 0) = false := by rw [smsC_len]; exact decide_eq_false (by omega)
  have a2 : (bif (bif decide (lv > 24) then true else (bif k != 4 then decide (((smsC f).length : Int) > 0) else false)) then true else (bif (bif k != 4 then k != 5 else false) then decide (((smsC t).length : Int) > 0) else false)) = false := by rw [a1, hd, lt]; rfl
  have b1 : (bif k == 1 then true else k == 2) = true := by rw [q1, q2]; rfl
  have kd : fitE k es.length = decide (es.length = 2) := by rw [hK]; rfl
  refine spec_of_bodyL CX_mixed CX_gpk Tryd.func60 rfl 110 0 rfl rfl rfl rfl ?_
  refine go_ ?_
  by_cases hs : s = (⟨#[]⟩ : ByteArray)
  · have hrx : rS (r + 1) (.mk k s es t f) = false := by rw [rS, if_neg ha, if_pos (by omega), if_neg (by rw [hs, show (⟨#[]⟩ : ByteArray) = ByteArray.empty from rfl, isE_nil]; simp)]
    have s0 : (!decide (s = (⟨#[]⟩ : ByteArray))) = false := by rw [hs]; rfl
    have s1 : (true != (!decide (s = (⟨#[]⟩ : ByteArray)))) = true := by rw [s0]; rfl
    refine go_ ?_
    refine ev_ ?_
    exact .mk (vb_eq (by rw [hrx])) trivial
  · have s0 : (!decide (s = (⟨#[]⟩ : ByteArray))) = true := by simpa using hs
    have s1 : (true != (!decide (s = (⟨#[]⟩ : ByteArray)))) = false := by rw [s0]; rfl
    by_cases he : isE s = true
    · have hrx : rS (r + 1) (.mk k s es t f) = (fitE k es.length && ((es.all fun e => rX r e) && ((t.all fun x => rS r x) && (f.all fun x => rS r x)))) := by rw [rS, if_neg ha, if_pos (by omega), if_pos he]
      have s2 : (bif (true != (!decide (s = (⟨#[]⟩ : ByteArray)))) then true else (bif true then !isE s else false)) = false := by rw [s1, he]; rfl
      have s3 : (bif (true != (!decide (s = (⟨#[]⟩ : ByteArray)))) then true else (!isE s)) = false := by rw [s1, he]; rfl
      have hl : ((exsC es).length : Int) = (es.length : Int) := by rw [exsC_len]
      refine go_ ?_
      with_reducible apply run_y
      exact want_
      · intro K hK
        refine ev_ ?_
        refine vcCall_plain (s_isName s) (by kernel_rfl) ?_
        refine ev_ ?_
        exact hK
      refine go_ ?_
      by_cases hc : es.length = 2
      · have c0 : (((exsC es).length : Int) == 2) = true := by simp only [beq_iff_eq]; omega
        have kd : fitE k es.length = true := by rw [kd]; exact decide_eq_true hc
        refine go_ ?_
        rw [hw]
        with_reducible apply run_y
        exact want_
        · intro K hK
          refine ev_ ?_
          refine vcCall_plain (hX) (by kernel_rfl) ?_
          refine ev_ ?_
          exact hK
        refine go_ ?_
        by_cases hx : (es.all fun e => rX r e) = true
        · have c1 : (bif (((exsC es).length : Int) == 2) then (es.all fun e => rX r e) else false) = true := by rw [c0, hx]; rfl
          refine go_ ?_
          rw [hw]
          with_reducible apply run_y
          exact want_
          · intro K hK
            refine ev_ ?_
            refine vcCall_plain (hT) (by kernel_rfl) ?_
            refine ev_ ?_
            exact hK
          refine go_ ?_
          by_cases ht : (t.all fun x => rS r x) = true
          · have c2 : (bif (bif (((exsC es).length : Int) == 2) then (es.all fun e => rX r e) else false) then (t.all fun x => rS r x) else false) = true := by rw [c1, ht]; rfl
            refine go_ ?_
            rw [hw]
            with_reducible apply run_y
            exact want_
            · intro K hK
              refine ev_ ?_
              refine vcCall_plain (hF) (by kernel_rfl) ?_
              refine ev_ ?_
              exact hK
            refine go_ ?_
            refine ev_ ?_
            exact .mk (vb_eq (by (rw [hrx, kd, hx, ht, c0]; rfl))) trivial
          · have ht : (t.all fun x => rS r x) = false := by simpa using ht
            have c2 : (bif (bif (((exsC es).length : Int) == 2) then (es.all fun e => rX r e) else false) then (t.all fun x => rS r x) else false) = false := by rw [c1, ht]; rfl
            refine go_ ?_
            refine ev_ ?_
            exact .mk (vb_eq (by (rw [hrx, kd, hx, ht]; rfl))) trivial
        · have hx : (es.all fun e => rX r e) = false := by simpa using hx
          have c1 : (bif (((exsC es).length : Int) == 2) then (es.all fun e => rX r e) else false) = false := by rw [c0, hx]; rfl
          refine go_ ?_
          refine ev_ ?_
          exact .mk (vb_eq (by (rw [hrx, kd, hx]; rfl))) trivial
      · have c0 : (((exsC es).length : Int) == 2) = false := by simp only [beq_eq_false_iff_ne, ne_eq]; omega
        have kd : fitE k es.length = false := by rw [kd]; exact decide_eq_false hc
        refine go_ ?_
        refine ev_ ?_
        exact .mk (vb_eq (by (rw [hrx, kd]; rfl))) trivial
    · have he : isE s = false := by simpa using he
      have hrx : rS (r + 1) (.mk k s es t f) = false := by rw [rS, if_neg ha, if_pos (by omega), if_neg (by rw [he]; simp)]
      have s2 : (bif (true != (!decide (s = (⟨#[]⟩ : ByteArray)))) then true else (bif true then !isE s else false)) = true := by rw [s1, he]; rfl
      have s3 : (bif (true != (!decide (s = (⟨#[]⟩ : ByteArray)))) then true else (!isE s)) = true := by rw [s1, he]; rfl
      refine go_ ?_
      with_reducible apply run_y
      exact want_
      · intro K hK
        refine ev_ ?_
        refine vcCall_plain (s_isName s) (by kernel_rfl) ?_
        refine ev_ ?_
        exact hK
      refine go_ ?_
      refine ev_ ?_
      exact .mk (vb_eq (by rw [hrx])) trivial
set_option maxHeartbeats 4000000 in
set_option maxRecDepth 100000 in
theorem s_rT_4 (lv lv1 : Int) (r : Nat) (k : Int) (s : ByteArray) (es : List Ex) (t f : List Sm) (hlv : decide (lv > 24) = false) (hw : IntKind.i64.wrap (lv + 1) = lv1) (hK : k = 4) (ha : ¬ ((k ≠ 4 ∧ f.length ≠ 0) ∨ (k ≠ 4 ∧ k ≠ 5 ∧ t.length ≠ 0))) : TellsT lv lv1 r k s es t f := by
  intro hX hT hF
  have q1 : (k == 1) = false := by rw [hK]; rfl
  have q2 : (k == 2) = false := by rw [hK]; rfl
  have q3 : (k == 3) = false := by rw [hK]; rfl
  have q4 : (k == 4) = true := by rw [hK]; rfl
  have q5 : (k == 5) = false := by rw [hK]; rfl
  have q6 : (k == 6) = false := by rw [hK]; rfl
  have q7 : (k == 7) = false := by rw [hK]; rfl
  have m4 : (k != 4) = false := by rw [hK]; rfl
  have m5 : (k != 5) = true := by rw [hK]; rfl
  have a1 : (bif decide (lv > 24) then true else false) = false := by rw [hlv]; rfl
  have a2 : (bif (bif decide (lv > 24) then true else false) then true else false) = false := by rw [a1]; rfl
  have b1 : (bif k == 1 then true else k == 2) = false := by rw [q1, q2]; rfl
  have b2 : (bif (bif k == 1 then true else k == 2) then true else k == 6) = false := by rw [b1, q6]; rfl
  have kd : fitE k es.length = decide (es.length = 1) := by rw [hK]; rfl
  refine spec_of_bodyL CX_mixed CX_gpk Tryd.func60 rfl 110 0 rfl rfl rfl rfl ?_
  refine go_ ?_
  by_cases hs : s = (⟨#[]⟩ : ByteArray)
  · have hrx : rS (r + 1) (.mk k s es t f) = (fitE k es.length && ((es.all fun e => rX r e) && ((t.all fun x => rS r x) && (f.all fun x => rS r x)))) := by rw [rS, if_neg ha, if_neg (by omega), if_pos (show s = ByteArray.empty from hs)]
    have s0 : (!decide (s = (⟨#[]⟩ : ByteArray))) = false := by rw [hs]; rfl
    have s1 : ((bif (bif k == 1 then true else k == 2) then true else k == 6) != (!decide (s = (⟨#[]⟩ : ByteArray)))) = false := by rw [b2, s0]; rfl
    have s2 : (bif ((bif (bif k == 1 then true else k == 2) then true else k == 6) != (!decide (s = (⟨#[]⟩ : ByteArray)))) then true else false) = false := by rw [s1]; rfl
    have hl : ((exsC es).length : Int) = (es.length : Int) := by rw [exsC_len]
    refine go_ ?_
    by_cases hc : es.length = 1
    · have c0 : (((exsC es).length : Int) == 1) = true := by simp only [beq_iff_eq]; omega
      have kd : fitE k es.length = true := by rw [kd]; exact decide_eq_true hc
      refine go_ ?_
      rw [hw]
      with_reducible apply run_y
      exact want_
      · intro K hK
        refine ev_ ?_
        refine vcCall_plain (hX) (by kernel_rfl) ?_
        refine ev_ ?_
        exact hK
      refine go_ ?_
      by_cases hx : (es.all fun e => rX r e) = true
      · have c1 : (bif (((exsC es).length : Int) == 1) then (es.all fun e => rX r e) else false) = true := by rw [c0, hx]; rfl
        refine go_ ?_
        rw [hw]
        with_reducible apply run_y
        exact want_
        · intro K hK
          refine ev_ ?_
          refine vcCall_plain (hT) (by kernel_rfl) ?_
          refine ev_ ?_
          exact hK
        refine go_ ?_
        by_cases ht : (t.all fun x => rS r x) = true
        · have c2 : (bif (bif (((exsC es).length : Int) == 1) then (es.all fun e => rX r e) else false) then (t.all fun x => rS r x) else false) = true := by rw [c1, ht]; rfl
          refine go_ ?_
          rw [hw]
          with_reducible apply run_y
          exact want_
          · intro K hK
            refine ev_ ?_
            refine vcCall_plain (hF) (by kernel_rfl) ?_
            refine ev_ ?_
            exact hK
          refine go_ ?_
          refine ev_ ?_
          exact .mk (vb_eq (by (rw [hrx, kd, hx, ht, c0]; rfl))) trivial
        · have ht : (t.all fun x => rS r x) = false := by simpa using ht
          have c2 : (bif (bif (((exsC es).length : Int) == 1) then (es.all fun e => rX r e) else false) then (t.all fun x => rS r x) else false) = false := by rw [c1, ht]; rfl
          refine go_ ?_
          refine ev_ ?_
          exact .mk (vb_eq (by (rw [hrx, kd, hx, ht]; rfl))) trivial
      · have hx : (es.all fun e => rX r e) = false := by simpa using hx
        have c1 : (bif (((exsC es).length : Int) == 1) then (es.all fun e => rX r e) else false) = false := by rw [c0, hx]; rfl
        refine go_ ?_
        refine ev_ ?_
        exact .mk (vb_eq (by (rw [hrx, kd, hx]; rfl))) trivial
    · have c0 : (((exsC es).length : Int) == 1) = false := by simp only [beq_eq_false_iff_ne, ne_eq]; omega
      have kd : fitE k es.length = false := by rw [kd]; exact decide_eq_false hc
      refine go_ ?_
      refine ev_ ?_
      exact .mk (vb_eq (by (rw [hrx, kd]; rfl))) trivial
  · have hrx : rS (r + 1) (.mk k s es t f) = false := by rw [rS, if_neg ha, if_neg (by omega), if_neg (show ¬ s = ByteArray.empty from hs)]
    have s0 : (!decide (s = (⟨#[]⟩ : ByteArray))) = true := by simpa using hs
    have s1 : ((bif (bif k == 1 then true else k == 2) then true else k == 6) != (!decide (s = (⟨#[]⟩ : ByteArray)))) = true := by rw [b2, s0]; rfl
    refine go_ ?_
    refine ev_ ?_
    exact .mk (vb_eq (by rw [hrx])) trivial
set_option maxHeartbeats 4000000 in
set_option maxRecDepth 100000 in
theorem s_rT_6 (lv lv1 : Int) (r : Nat) (k : Int) (s : ByteArray) (es : List Ex) (t f : List Sm) (hlv : decide (lv > 24) = false) (hw : IntKind.i64.wrap (lv + 1) = lv1) (hK : k = 6) (ha : ¬ ((k ≠ 4 ∧ f.length ≠ 0) ∨ (k ≠ 4 ∧ k ≠ 5 ∧ t.length ≠ 0))) : TellsT lv lv1 r k s es t f := by
  intro hX hT hF
  have q1 : (k == 1) = false := by rw [hK]; rfl
  have q2 : (k == 2) = false := by rw [hK]; rfl
  have q3 : (k == 3) = false := by rw [hK]; rfl
  have q4 : (k == 4) = false := by rw [hK]; rfl
  have q5 : (k == 5) = false := by rw [hK]; rfl
  have q6 : (k == 6) = true := by rw [hK]; rfl
  have q7 : (k == 7) = false := by rw [hK]; rfl
  have m4 : (k != 4) = true := by rw [hK]; rfl
  have m5 : (k != 5) = true := by rw [hK]; rfl
  have lf : decide (((smsC f).length : Int) > 0) = false := by rw [smsC_len]; exact decide_eq_false (by omega)
  have a1 : (bif decide (lv > 24) then true else (bif k != 4 then decide (((smsC f).length : Int) > 0) else false)) = false := by rw [hlv, m4, lf]; rfl
  have hd : (bif k != 4 then k != 5 else false) = true := by rw [m4, m5]; rfl
  have lt : decide (((smsC t).length : Int) > 0) = false := by rw [smsC_len]; exact decide_eq_false (by omega)
  have a2 : (bif (bif decide (lv > 24) then true else (bif k != 4 then decide (((smsC f).length : Int) > 0) else false)) then true else (bif (bif k != 4 then k != 5 else false) then decide (((smsC t).length : Int) > 0) else false)) = false := by rw [a1, hd, lt]; rfl
  have b1 : (bif k == 1 then true else k == 2) = false := by rw [q1, q2]; rfl
  have b2 : (bif (bif k == 1 then true else k == 2) then true else k == 6) = true := by rw [b1, q6]; rfl
  have kd : fitE k es.length = decide (es.length ≤ 6) := by rw [hK]; rfl
  refine spec_of_bodyL CX_mixed CX_gpk Tryd.func60 rfl 110 0 rfl rfl rfl rfl ?_
  refine go_ ?_
  by_cases hs : s = (⟨#[]⟩ : ByteArray)
  · have hrx : rS (r + 1) (.mk k s es t f) = false := by rw [rS, if_neg ha, if_pos (by omega), if_neg (by rw [hs, show (⟨#[]⟩ : ByteArray) = ByteArray.empty from rfl, isE_nil]; simp)]
    have s0 : (!decide (s = (⟨#[]⟩ : ByteArray))) = false := by rw [hs]; rfl
    have s1 : ((bif (bif k == 1 then true else k == 2) then true else k == 6) != (!decide (s = (⟨#[]⟩ : ByteArray)))) = true := by rw [b2, s0]; rfl
    refine go_ ?_
    refine ev_ ?_
    exact .mk (vb_eq (by rw [hrx])) trivial
  · have s0 : (!decide (s = (⟨#[]⟩ : ByteArray))) = true := by simpa using hs
    have s1 : ((bif (bif k == 1 then true else k == 2) then true else k == 6) != (!decide (s = (⟨#[]⟩ : ByteArray)))) = false := by rw [b2, s0]; rfl
    by_cases he : isE s = true
    · have hrx : rS (r + 1) (.mk k s es t f) = (fitE k es.length && ((es.all fun e => rX r e) && ((t.all fun x => rS r x) && (f.all fun x => rS r x)))) := by rw [rS, if_neg ha, if_pos (by omega), if_pos he]
      have s2 : (bif ((bif (bif k == 1 then true else k == 2) then true else k == 6) != (!decide (s = (⟨#[]⟩ : ByteArray)))) then true else (bif (bif (bif k == 1 then true else k == 2) then true else k == 6) then !isE s else false)) = false := by rw [s1, b2, he]; rfl
      have hl : ((exsC es).length : Int) = (es.length : Int) := by rw [exsC_len]
      refine go_ ?_
      with_reducible apply run_y
      exact want_
      · intro K hK
        refine ev_ ?_
        refine vcCall_plain (s_isName s) (by kernel_rfl) ?_
        refine ev_ ?_
        exact hK
      refine go_ ?_
      by_cases hc : es.length ≤ 6
      · have c0 : decide (((exsC es).length : Int) ≤ 6) = true := decide_eq_true (by omega)
        have kd : fitE k es.length = true := by rw [kd]; exact decide_eq_true hc
        refine go_ ?_
        rw [hw]
        with_reducible apply run_y
        exact want_
        · intro K hK
          refine ev_ ?_
          refine vcCall_plain (hX) (by kernel_rfl) ?_
          refine ev_ ?_
          exact hK
        refine go_ ?_
        by_cases hx : (es.all fun e => rX r e) = true
        · have c1 : (bif decide (((exsC es).length : Int) ≤ 6) then (es.all fun e => rX r e) else false) = true := by rw [c0, hx]; rfl
          refine go_ ?_
          rw [hw]
          with_reducible apply run_y
          exact want_
          · intro K hK
            refine ev_ ?_
            refine vcCall_plain (hT) (by kernel_rfl) ?_
            refine ev_ ?_
            exact hK
          refine go_ ?_
          by_cases ht : (t.all fun x => rS r x) = true
          · have c2 : (bif (bif decide (((exsC es).length : Int) ≤ 6) then (es.all fun e => rX r e) else false) then (t.all fun x => rS r x) else false) = true := by rw [c1, ht]; rfl
            refine go_ ?_
            rw [hw]
            with_reducible apply run_y
            exact want_
            · intro K hK
              refine ev_ ?_
              refine vcCall_plain (hF) (by kernel_rfl) ?_
              refine ev_ ?_
              exact hK
            refine go_ ?_
            refine ev_ ?_
            exact .mk (vb_eq (by (rw [hrx, kd, hx, ht, c0]; rfl))) trivial
          · have ht : (t.all fun x => rS r x) = false := by simpa using ht
            have c2 : (bif (bif decide (((exsC es).length : Int) ≤ 6) then (es.all fun e => rX r e) else false) then (t.all fun x => rS r x) else false) = false := by rw [c1, ht]; rfl
            refine go_ ?_
            refine ev_ ?_
            exact .mk (vb_eq (by (rw [hrx, kd, hx, ht]; rfl))) trivial
        · have hx : (es.all fun e => rX r e) = false := by simpa using hx
          have c1 : (bif decide (((exsC es).length : Int) ≤ 6) then (es.all fun e => rX r e) else false) = false := by rw [c0, hx]; rfl
          refine go_ ?_
          refine ev_ ?_
          exact .mk (vb_eq (by (rw [hrx, kd, hx]; rfl))) trivial
      · have c0 : decide (((exsC es).length : Int) ≤ 6) = false := decide_eq_false (by omega)
        have kd : fitE k es.length = false := by rw [kd]; exact decide_eq_false hc
        refine go_ ?_
        refine ev_ ?_
        exact .mk (vb_eq (by (rw [hrx, kd]; rfl))) trivial
    · have he : isE s = false := by simpa using he
      have hrx : rS (r + 1) (.mk k s es t f) = false := by rw [rS, if_neg ha, if_pos (by omega), if_neg (by rw [he]; simp)]
      have s2 : (bif ((bif (bif k == 1 then true else k == 2) then true else k == 6) != (!decide (s = (⟨#[]⟩ : ByteArray)))) then true else (bif (bif (bif k == 1 then true else k == 2) then true else k == 6) then !isE s else false)) = true := by rw [s1, b2, he]; rfl
      refine go_ ?_
      with_reducible apply run_y
      exact want_
      · intro K hK
        refine ev_ ?_
        refine vcCall_plain (s_isName s) (by kernel_rfl) ?_
        refine ev_ ?_
        exact hK
      refine go_ ?_
      refine ev_ ?_
      exact .mk (vb_eq (by rw [hrx])) trivial
end Go.Proofs.YtddggjmfplohkaaDoor
