import Derived.Test.YtddggjmfplohkaaDoorTe
/- Whether an expression may be, the document's. -/
namespace Go.Proofs.YtddggjmfplohkaaDoor
open Go.RowKit
set_option linter.unnecessarySimpa false
theorem u32_eq0 {n : UInt32} (h : n = 0) : (((n.toNat : Int)) != 0) = false := by rw [h]; rfl
theorem u32_ne0 {n : UInt32} (h : n ≠ 0) : (((n.toNat : Int)) != 0) = true := by
  simp only [bne_iff_ne, ne_eq]
  exact fun e => h (UInt32.toNat_inj.1 (by simpa using e))
set_option maxHeartbeats 4000000 in
set_option maxRecDepth 100000 in
/-- Too deep. -/
theorem s_rE_deep (lv : Int) (hlv : decide (lv > 24) = true) (e : Ex) : Spec (Ctx.mk Tryd.prog globT 7 LaidT) 86 [.agg (exC e), .v (.int .i64 lv)] [] (.v (.bool (rX 0 e))) [] := by
  obtain ⟨k, o, n, s, ks⟩ := e
  refine spec_of_bodyL CX_mixed CX_gpk Tryd.func86 rfl 123 0 rfl rfl rfl rfl ?_
  refine go_ ?_
  refine ev_ ?_
  exact .mk (vb_eq (by rfl)) trivial
set_option maxHeartbeats 4000000 in
set_option maxRecDepth 100000 in
theorem s_rE_A (lv lv1 : Int) (r : Nat) (k o : Int) (n : UInt32) (s : ByteArray) (ks : List Ex) (hlv : decide (lv > 24) = false) (ha : (k ≠ 6 ∧ o ≠ 0) ∨ (k ≠ 1 ∧ n ≠ 0)) : TellsR lv lv1 r k o n s ks := by
  intro _
  have hrx : rX (r + 1) (.mk k o n s ks) = false := by rw [rX, if_pos ha]
  by_cases h6 : k = 6
  · have n6 : (k != 6) = false := by rw [h6]; rfl
    have n1 : (k != 1) = true := by rw [h6]; rfl
    have hn : n ≠ 0 := by
      rcases ha with h | h
      · exact absurd h6 h.1
      · exact h.2
    have n0 := u32_ne0 hn
    have a1 : (bif decide (lv > 24) then true else false) = false := by rw [hlv]; rfl
    have a2 : (bif (bif decide (lv > 24) then true else false) then true else (bif k != 1 then ((n.toNat : Int)) != 0 else false)) = true := by rw [a1, n1, n0]; rfl
    refine spec_of_bodyL CX_mixed CX_gpk Tryd.func86 rfl 123 0 rfl rfl rfl rfl ?_
    refine go_ ?_
    refine ev_ ?_
    exact .mk (vb_eq (by rw [hrx])) trivial
  · have n6 : (k != 6) = true := by simpa using h6
    by_cases h0 : o = 0
    · have o0 : (o != 0) = false := by rw [h0]; rfl
      have h1 : k ≠ 1 ∧ n ≠ 0 := by
        rcases ha with h | h
        · exact absurd h0 h.2
        · exact h
      have n1 : (k != 1) = true := by simpa using h1.1
      have n0 := u32_ne0 h1.2
      have a1 : (bif decide (lv > 24) then true else (bif k != 6 then o != 0 else false)) = false := by rw [hlv, n6, o0]; rfl
      have a2 : (bif (bif decide (lv > 24) then true else (bif k != 6 then o != 0 else false)) then true else (bif k != 1 then ((n.toNat : Int)) != 0 else false)) = true := by rw [a1, n1, n0]; rfl
      refine spec_of_bodyL CX_mixed CX_gpk Tryd.func86 rfl 123 0 rfl rfl rfl rfl ?_
      refine go_ ?_
      refine ev_ ?_
      exact .mk (vb_eq (by rw [hrx])) trivial
    · have o0 : (o != 0) = true := by simpa using h0
      have a1 : (bif decide (lv > 24) then true else (bif k != 6 then o != 0 else false)) = true := by rw [hlv, n6, o0]; rfl
      refine spec_of_bodyL CX_mixed CX_gpk Tryd.func86 rfl 123 0 rfl rfl rfl rfl ?_
      refine go_ ?_
      refine ev_ ?_
      exact .mk (vb_eq (by rw [hrx])) trivial
set_option maxHeartbeats 4000000 in
set_option maxRecDepth 100000 in
theorem s_rE_1 (lv lv1 : Int) (r : Nat) (k o : Int) (n : UInt32) (s : ByteArray) (ks : List Ex) (hlv : decide (lv > 24) = false) (_hw : IntKind.i64.wrap (lv + 1) = lv1) (hK : k = 1) (ha : ¬ ((k ≠ 6 ∧ o ≠ 0) ∨ (k ≠ 1 ∧ n ≠ 0))) : TellsR lv lv1 r k o n s ks := by
  intro hks
  have q1 : (k == 1) = true := by rw [hK]; rfl
  have q2 : (k == 2) = false := by rw [hK]; rfl
  have q3 : (k == 3) = false := by rw [hK]; rfl
  have q4 : (k == 4) = false := by rw [hK]; rfl
  have q5 : (k == 5) = false := by rw [hK]; rfl
  have q6 : (k == 6) = false := by rw [hK]; rfl
  have q7 : (k == 7) = false := by rw [hK]; rfl
  have q8 : (k == 8) = false := by rw [hK]; rfl
  have q9 : (k == 9) = false := by rw [hK]; rfl
  have m6 : (k != 6) = true := by rw [hK]; rfl
  have m1 : (k != 1) = false := by rw [hK]; rfl
  have ho : o = 0 := by
    refine Decidable.byContradiction fun h => ha (.inl ⟨by omega, h⟩)
  have o0 : (o != 0) = false := by rw [ho]; rfl
  have a1 : (bif decide (lv > 24) then true else (bif k != 6 then o != 0 else false)) = false := by rw [hlv, m6, o0]; rfl
  have a2 : (bif (bif decide (lv > 24) then true else (bif k != 6 then o != 0 else false)) then true else false) = false := by rw [a1]; rfl
  have b1 : (bif k == 2 then true else k == 3) = false := by rw [q2, q3]; rfl
  have b2 : (bif (bif k == 2 then true else k == 3) then true else k == 4) = false := by rw [b1, q4]; rfl
  have kd : ∀ b, kdE b k o ks.length = decide (ks.length = 0) := fun b => by rw [hK]; rfl
  refine spec_of_bodyL CX_mixed CX_gpk Tryd.func86 rfl 123 0 rfl rfl rfl rfl ?_
  refine go_ ?_
  by_cases hs : s = (⟨#[]⟩ : ByteArray)
  · have hrx : rX (r + 1) (.mk k o n s ks) = kdE (ks.all fun e => rX r e) k o ks.length := by rw [rX, if_neg ha, if_neg (by omega), if_pos (show s = ByteArray.empty from hs)]
    have s0 : (!decide (s = (⟨#[]⟩ : ByteArray))) = false := by rw [hs]; rfl
    have s1 : ((bif (bif k == 2 then true else k == 3) then true else k == 4) != (!decide (s = (⟨#[]⟩ : ByteArray)))) = false := by rw [b2, s0]; rfl
    have s2 : (bif ((bif (bif k == 2 then true else k == 3) then true else k == 4) != (!decide (s = (⟨#[]⟩ : ByteArray)))) then true else false) = false := by rw [s1]; rfl
    have hl : ((exsC ks).length : Int) = (ks.length : Int) := by rw [exsC_len]
    refine go_ ?_
    refine ev_ ?_
    exact .mk (vb_eq (by (rw [hrx, kd, hl, Bool.eq_iff_iff]; simp))) trivial
  · have hrx : rX (r + 1) (.mk k o n s ks) = false := by rw [rX, if_neg ha, if_neg (by omega), if_neg (show ¬ s = ByteArray.empty from hs)]
    have s0 : (!decide (s = (⟨#[]⟩ : ByteArray))) = true := by simpa using hs
    have s1 : ((bif (bif k == 2 then true else k == 3) then true else k == 4) != (!decide (s = (⟨#[]⟩ : ByteArray)))) = true := by rw [b2, s0]; rfl
    refine go_ ?_
    refine ev_ ?_
    exact .mk (vb_eq (by rw [hrx])) trivial
set_option maxHeartbeats 4000000 in
set_option maxRecDepth 100000 in
theorem s_rE_2 (lv lv1 : Int) (r : Nat) (k o : Int) (n : UInt32) (s : ByteArray) (ks : List Ex) (hlv : decide (lv > 24) = false) (_hw : IntKind.i64.wrap (lv + 1) = lv1) (hK : k = 2) (ha : ¬ ((k ≠ 6 ∧ o ≠ 0) ∨ (k ≠ 1 ∧ n ≠ 0))) : TellsR lv lv1 r k o n s ks := by
  intro hks
  have q1 : (k == 1) = false := by rw [hK]; rfl
  have q2 : (k == 2) = true := by rw [hK]; rfl
  have q3 : (k == 3) = false := by rw [hK]; rfl
  have q4 : (k == 4) = false := by rw [hK]; rfl
  have q5 : (k == 5) = false := by rw [hK]; rfl
  have q6 : (k == 6) = false := by rw [hK]; rfl
  have q7 : (k == 7) = false := by rw [hK]; rfl
  have q8 : (k == 8) = false := by rw [hK]; rfl
  have q9 : (k == 9) = false := by rw [hK]; rfl
  have m6 : (k != 6) = true := by rw [hK]; rfl
  have m1 : (k != 1) = true := by rw [hK]; rfl
  have ho : o = 0 := by
    refine Decidable.byContradiction fun h => ha (.inl ⟨by omega, h⟩)
  have o0 : (o != 0) = false := by rw [ho]; rfl
  have a1 : (bif decide (lv > 24) then true else (bif k != 6 then o != 0 else false)) = false := by rw [hlv, m6, o0]; rfl
  have hn : n = 0 := by
    refine Decidable.byContradiction fun h => ha (.inr ⟨by omega, h⟩)
  have n0 := u32_eq0 hn
  have a2 : (bif (bif decide (lv > 24) then true else (bif k != 6 then o != 0 else false)) then true else (bif k != 1 then ((n.toNat : Int)) != 0 else false)) = false := by rw [a1, m1, n0]; rfl
  have kd : ∀ b, kdE b k o ks.length = decide (ks.length = 0) := fun b => by rw [hK]; rfl
  refine spec_of_bodyL CX_mixed CX_gpk Tryd.func86 rfl 123 0 rfl rfl rfl rfl ?_
  refine go_ ?_
  by_cases hs : s = (⟨#[]⟩ : ByteArray)
  · have hrx : rX (r + 1) (.mk k o n s ks) = false := by rw [rX, if_neg ha, if_pos (by omega), if_neg (by rw [hs, show (⟨#[]⟩ : ByteArray) = ByteArray.empty from rfl, isE_nil]; simp)]
    have s0 : (!decide (s = (⟨#[]⟩ : ByteArray))) = false := by rw [hs]; rfl
    have s1 : (true != (!decide (s = (⟨#[]⟩ : ByteArray)))) = true := by rw [s0]; rfl
    refine go_ ?_
    refine ev_ ?_
    exact .mk (vb_eq (by rw [hrx])) trivial
  · have s0 : (!decide (s = (⟨#[]⟩ : ByteArray))) = true := by simpa using hs
    have s1 : (true != (!decide (s = (⟨#[]⟩ : ByteArray)))) = false := by rw [s0]; rfl
    by_cases he : isE s = true
    · have hrx : rX (r + 1) (.mk k o n s ks) = kdE (ks.all fun e => rX r e) k o ks.length := by rw [rX, if_neg ha, if_pos (by omega), if_pos he]
      have s2 : (bif (true != (!decide (s = (⟨#[]⟩ : ByteArray)))) then true else (bif true then !isE s else false)) = false := by rw [s1, he]; rfl
      have s3 : (bif (true != (!decide (s = (⟨#[]⟩ : ByteArray)))) then true else (!isE s)) = false := by rw [s1, he]; rfl
      have hl : ((exsC ks).length : Int) = (ks.length : Int) := by rw [exsC_len]
      refine go_ ?_
      with_reducible apply run_y
      exact want_
      · intro K hK
        refine ev_ ?_
        refine vcCall_plain (s_isName s) (by kernel_rfl) ?_
        refine ev_ ?_
        exact hK
      refine go_ ?_
      refine ev_ ?_
      exact .mk (vb_eq (by (rw [hrx, kd, hl, Bool.eq_iff_iff]; simp))) trivial
    · have he : isE s = false := by simpa using he
      have hrx : rX (r + 1) (.mk k o n s ks) = false := by rw [rX, if_neg ha, if_pos (by omega), if_neg (by rw [he]; simp)]
      have s2 : (bif (true != (!decide (s = (⟨#[]⟩ : ByteArray)))) then true else (bif true then !isE s else false)) = true := by rw [s1, he]; rfl
      have s3 : (bif (true != (!decide (s = (⟨#[]⟩ : ByteArray)))) then true else (!isE s)) = true := by rw [s1, he]; rfl
      refine go_ ?_
      with_reducible apply run_y
      exact want_
      · intro K hK
        refine ev_ ?_
        refine vcCall_plain (s_isName s) (by kernel_rfl) ?_
        refine ev_ ?_
        exact hK
      refine go_ ?_
      refine ev_ ?_
      exact .mk (vb_eq (by rw [hrx])) trivial
set_option maxHeartbeats 4000000 in
set_option maxRecDepth 100000 in
theorem s_rE_3 (lv lv1 : Int) (r : Nat) (k o : Int) (n : UInt32) (s : ByteArray) (ks : List Ex) (hlv : decide (lv > 24) = false) (hw : IntKind.i64.wrap (lv + 1) = lv1) (hK : k = 3) (ha : ¬ ((k ≠ 6 ∧ o ≠ 0) ∨ (k ≠ 1 ∧ n ≠ 0))) : TellsR lv lv1 r k o n s ks := by
  intro hks
  have q1 : (k == 1) = false := by rw [hK]; rfl
  have q2 : (k == 2) = false := by rw [hK]; rfl
  have q3 : (k == 3) = true := by rw [hK]; rfl
  have q4 : (k == 4) = false := by rw [hK]; rfl
  have q5 : (k == 5) = false := by rw [hK]; rfl
  have q6 : (k == 6) = false := by rw [hK]; rfl
  have q7 : (k == 7) = false := by rw [hK]; rfl
  have q8 : (k == 8) = false := by rw [hK]; rfl
  have q9 : (k == 9) = false := by rw [hK]; rfl
  have m6 : (k != 6) = true := by rw [hK]; rfl
  have m1 : (k != 1) = true := by rw [hK]; rfl
  have ho : o = 0 := by
    refine Decidable.byContradiction fun h => ha (.inl ⟨by omega, h⟩)
  have o0 : (o != 0) = false := by rw [ho]; rfl
  have a1 : (bif decide (lv > 24) then true else (bif k != 6 then o != 0 else false)) = false := by rw [hlv, m6, o0]; rfl
  have hn : n = 0 := by
    refine Decidable.byContradiction fun h => ha (.inr ⟨by omega, h⟩)
  have n0 := u32_eq0 hn
  have a2 : (bif (bif decide (lv > 24) then true else (bif k != 6 then o != 0 else false)) then true else (bif k != 1 then ((n.toNat : Int)) != 0 else false)) = false := by rw [a1, m1, n0]; rfl
  have b1 : (bif k == 2 then true else k == 3) = true := by rw [q2, q3]; rfl
  have kd : ∀ b, kdE b k o ks.length = (decide (ks.length = 1) && b) := fun b => by rw [hK]; rfl
  refine spec_of_bodyL CX_mixed CX_gpk Tryd.func86 rfl 123 0 rfl rfl rfl rfl ?_
  refine go_ ?_
  by_cases hs : s = (⟨#[]⟩ : ByteArray)
  · have hrx : rX (r + 1) (.mk k o n s ks) = false := by rw [rX, if_neg ha, if_pos (by omega), if_neg (by rw [hs, show (⟨#[]⟩ : ByteArray) = ByteArray.empty from rfl, isE_nil]; simp)]
    have s0 : (!decide (s = (⟨#[]⟩ : ByteArray))) = false := by rw [hs]; rfl
    have s1 : (true != (!decide (s = (⟨#[]⟩ : ByteArray)))) = true := by rw [s0]; rfl
    refine go_ ?_
    refine ev_ ?_
    exact .mk (vb_eq (by rw [hrx])) trivial
  · have s0 : (!decide (s = (⟨#[]⟩ : ByteArray))) = true := by simpa using hs
    have s1 : (true != (!decide (s = (⟨#[]⟩ : ByteArray)))) = false := by rw [s0]; rfl
    by_cases he : isE s = true
    · have hrx : rX (r + 1) (.mk k o n s ks) = kdE (ks.all fun e => rX r e) k o ks.length := by rw [rX, if_neg ha, if_pos (by omega), if_pos he]
      have s2 : (bif (true != (!decide (s = (⟨#[]⟩ : ByteArray)))) then true else (bif true then !isE s else false)) = false := by rw [s1, he]; rfl
      have s3 : (bif (true != (!decide (s = (⟨#[]⟩ : ByteArray)))) then true else (!isE s)) = false := by rw [s1, he]; rfl
      have hl : ((exsC ks).length : Int) = (ks.length : Int) := by rw [exsC_len]
      refine go_ ?_
      with_reducible apply run_y
      exact want_
      · intro K hK
        refine ev_ ?_
        refine vcCall_plain (s_isName s) (by kernel_rfl) ?_
        refine ev_ ?_
        exact hK
      refine go_ ?_
      by_cases hc : ks.length = 1
      · have c1 : (((exsC ks).length : Int) == 1) = true := by simp only [beq_iff_eq]; omega
        refine go_ ?_
        rw [hw]
        with_reducible apply run_y
        exact want_
        · intro K hK
          refine ev_ ?_
          refine vcCall_plain (hks) (by kernel_rfl) ?_
          refine ev_ ?_
          exact hK
        refine go_ ?_
        refine ev_ ?_
        exact .mk (vb_eq (by (rw [hrx, kd, c1, decide_eq_true hc]; rfl))) trivial
      · have c1 : (((exsC ks).length : Int) == 1) = false := by simp only [beq_eq_false_iff_ne, ne_eq]; omega
        refine go_ ?_
        refine ev_ ?_
        exact .mk (vb_eq (by (rw [hrx, kd, decide_eq_false hc]; rfl))) trivial
    · have he : isE s = false := by simpa using he
      have hrx : rX (r + 1) (.mk k o n s ks) = false := by rw [rX, if_neg ha, if_pos (by omega), if_neg (by rw [he]; simp)]
      have s2 : (bif (true != (!decide (s = (⟨#[]⟩ : ByteArray)))) then true else (bif true then !isE s else false)) = true := by rw [s1, he]; rfl
      have s3 : (bif (true != (!decide (s = (⟨#[]⟩ : ByteArray)))) then true else (!isE s)) = true := by rw [s1, he]; rfl
      refine go_ ?_
      with_reducible apply run_y
      exact want_
      · intro K hK
        refine ev_ ?_
        refine vcCall_plain (s_isName s) (by kernel_rfl) ?_
        refine ev_ ?_
        exact hK
      refine go_ ?_
      refine ev_ ?_
      exact .mk (vb_eq (by rw [hrx])) trivial
set_option maxHeartbeats 4000000 in
set_option maxRecDepth 100000 in
theorem s_rE_4 (lv lv1 : Int) (r : Nat) (k o : Int) (n : UInt32) (s : ByteArray) (ks : List Ex) (hlv : decide (lv > 24) = false) (hw : IntKind.i64.wrap (lv + 1) = lv1) (hK : k = 4) (ha : ¬ ((k ≠ 6 ∧ o ≠ 0) ∨ (k ≠ 1 ∧ n ≠ 0))) : TellsR lv lv1 r k o n s ks := by
  intro hks
  have q1 : (k == 1) = false := by rw [hK]; rfl
  have q2 : (k == 2) = false := by rw [hK]; rfl
  have q3 : (k == 3) = false := by rw [hK]; rfl
  have q4 : (k == 4) = true := by rw [hK]; rfl
  have q5 : (k == 5) = false := by rw [hK]; rfl
  have q6 : (k == 6) = false := by rw [hK]; rfl
  have q7 : (k == 7) = false := by rw [hK]; rfl
  have q8 : (k == 8) = false := by rw [hK]; rfl
  have q9 : (k == 9) = false := by rw [hK]; rfl
  have m6 : (k != 6) = true := by rw [hK]; rfl
  have m1 : (k != 1) = true := by rw [hK]; rfl
  have ho : o = 0 := by
    refine Decidable.byContradiction fun h => ha (.inl ⟨by omega, h⟩)
  have o0 : (o != 0) = false := by rw [ho]; rfl
  have a1 : (bif decide (lv > 24) then true else (bif k != 6 then o != 0 else false)) = false := by rw [hlv, m6, o0]; rfl
  have hn : n = 0 := by
    refine Decidable.byContradiction fun h => ha (.inr ⟨by omega, h⟩)
  have n0 := u32_eq0 hn
  have a2 : (bif (bif decide (lv > 24) then true else (bif k != 6 then o != 0 else false)) then true else (bif k != 1 then ((n.toNat : Int)) != 0 else false)) = false := by rw [a1, m1, n0]; rfl
  have b1 : (bif k == 2 then true else k == 3) = false := by rw [q2, q3]; rfl
  have b2 : (bif (bif k == 2 then true else k == 3) then true else k == 4) = true := by rw [b1, q4]; rfl
  have kd : ∀ b, kdE b k o ks.length = (decide (ks.length ≤ 6) && b) := fun b => by rw [hK]; rfl
  refine spec_of_bodyL CX_mixed CX_gpk Tryd.func86 rfl 123 0 rfl rfl rfl rfl ?_
  refine go_ ?_
  by_cases hs : s = (⟨#[]⟩ : ByteArray)
  · have hrx : rX (r + 1) (.mk k o n s ks) = false := by rw [rX, if_neg ha, if_pos (by omega), if_neg (by rw [hs, show (⟨#[]⟩ : ByteArray) = ByteArray.empty from rfl, isE_nil]; simp)]
    have s0 : (!decide (s = (⟨#[]⟩ : ByteArray))) = false := by rw [hs]; rfl
    have s1 : ((bif (bif k == 2 then true else k == 3) then true else k == 4) != (!decide (s = (⟨#[]⟩ : ByteArray)))) = true := by rw [b2, s0]; rfl
    refine go_ ?_
    refine ev_ ?_
    exact .mk (vb_eq (by rw [hrx])) trivial
  · have s0 : (!decide (s = (⟨#[]⟩ : ByteArray))) = true := by simpa using hs
    have s1 : ((bif (bif k == 2 then true else k == 3) then true else k == 4) != (!decide (s = (⟨#[]⟩ : ByteArray)))) = false := by rw [b2, s0]; rfl
    by_cases he : isE s = true
    · have hrx : rX (r + 1) (.mk k o n s ks) = kdE (ks.all fun e => rX r e) k o ks.length := by rw [rX, if_neg ha, if_pos (by omega), if_pos he]
      have s2 : (bif ((bif (bif k == 2 then true else k == 3) then true else k == 4) != (!decide (s = (⟨#[]⟩ : ByteArray)))) then true else (bif (bif (bif k == 2 then true else k == 3) then true else k == 4) then !isE s else false)) = false := by rw [s1, b2, he]; rfl
      have hl : ((exsC ks).length : Int) = (ks.length : Int) := by rw [exsC_len]
      refine go_ ?_
      with_reducible apply run_y
      exact want_
      · intro K hK
        refine ev_ ?_
        refine vcCall_plain (s_isName s) (by kernel_rfl) ?_
        refine ev_ ?_
        exact hK
      refine go_ ?_
      by_cases hc : ks.length ≤ 6
      · have c1 : decide (((exsC ks).length : Int) ≤ 6) = true := decide_eq_true (by omega)
        refine go_ ?_
        rw [hw]
        with_reducible apply run_y
        exact want_
        · intro K hK
          refine ev_ ?_
          refine vcCall_plain (hks) (by kernel_rfl) ?_
          refine ev_ ?_
          exact hK
        refine go_ ?_
        refine ev_ ?_
        exact .mk (vb_eq (by (rw [hrx, kd, c1, decide_eq_true hc]; rfl))) trivial
      · have c1 : decide (((exsC ks).length : Int) ≤ 6) = false := decide_eq_false (by omega)
        refine go_ ?_
        refine ev_ ?_
        exact .mk (vb_eq (by (rw [hrx, kd, decide_eq_false hc]; rfl))) trivial
    · have he : isE s = false := by simpa using he
      have hrx : rX (r + 1) (.mk k o n s ks) = false := by rw [rX, if_neg ha, if_pos (by omega), if_neg (by rw [he]; simp)]
      have s2 : (bif ((bif (bif k == 2 then true else k == 3) then true else k == 4) != (!decide (s = (⟨#[]⟩ : ByteArray)))) then true else (bif (bif (bif k == 2 then true else k == 3) then true else k == 4) then !isE s else false)) = true := by rw [s1, b2, he]; rfl
      refine go_ ?_
      with_reducible apply run_y
      exact want_
      · intro K hK
        refine ev_ ?_
        refine vcCall_plain (s_isName s) (by kernel_rfl) ?_
        refine ev_ ?_
        exact hK
      refine go_ ?_
      refine ev_ ?_
      exact .mk (vb_eq (by rw [hrx])) trivial
set_option maxHeartbeats 4000000 in
set_option maxRecDepth 100000 in
theorem s_rE_5 (lv lv1 : Int) (r : Nat) (k o : Int) (n : UInt32) (s : ByteArray) (ks : List Ex) (hlv : decide (lv > 24) = false) (_hw : IntKind.i64.wrap (lv + 1) = lv1) (hK : k = 5) (ha : ¬ ((k ≠ 6 ∧ o ≠ 0) ∨ (k ≠ 1 ∧ n ≠ 0))) : TellsR lv lv1 r k o n s ks := by
  intro hks
  have q1 : (k == 1) = false := by rw [hK]; rfl
  have q2 : (k == 2) = false := by rw [hK]; rfl
  have q3 : (k == 3) = false := by rw [hK]; rfl
  have q4 : (k == 4) = false := by rw [hK]; rfl
  have q5 : (k == 5) = true := by rw [hK]; rfl
  have q6 : (k == 6) = false := by rw [hK]; rfl
  have q7 : (k == 7) = false := by rw [hK]; rfl
  have q8 : (k == 8) = false := by rw [hK]; rfl
  have q9 : (k == 9) = false := by rw [hK]; rfl
  have m6 : (k != 6) = true := by rw [hK]; rfl
  have m1 : (k != 1) = true := by rw [hK]; rfl
  have ho : o = 0 := by
    refine Decidable.byContradiction fun h => ha (.inl ⟨by omega, h⟩)
  have o0 : (o != 0) = false := by rw [ho]; rfl
  have a1 : (bif decide (lv > 24) then true else (bif k != 6 then o != 0 else false)) = false := by rw [hlv, m6, o0]; rfl
  have hn : n = 0 := by
    refine Decidable.byContradiction fun h => ha (.inr ⟨by omega, h⟩)
  have n0 := u32_eq0 hn
  have a2 : (bif (bif decide (lv > 24) then true else (bif k != 6 then o != 0 else false)) then true else (bif k != 1 then ((n.toNat : Int)) != 0 else false)) = false := by rw [a1, m1, n0]; rfl
  have b1 : (bif k == 2 then true else k == 3) = false := by rw [q2, q3]; rfl
  have b2 : (bif (bif k == 2 then true else k == 3) then true else k == 4) = false := by rw [b1, q4]; rfl
  have kd : ∀ b, kdE b k o ks.length = decide (ks.length = 0) := fun b => by rw [hK]; rfl
  refine spec_of_bodyL CX_mixed CX_gpk Tryd.func86 rfl 123 0 rfl rfl rfl rfl ?_
  refine go_ ?_
  by_cases hs : s = (⟨#[]⟩ : ByteArray)
  · have hrx : rX (r + 1) (.mk k o n s ks) = kdE (ks.all fun e => rX r e) k o ks.length := by rw [rX, if_neg ha, if_neg (by omega), if_pos (show s = ByteArray.empty from hs)]
    have s0 : (!decide (s = (⟨#[]⟩ : ByteArray))) = false := by rw [hs]; rfl
    have s1 : ((bif (bif k == 2 then true else k == 3) then true else k == 4) != (!decide (s = (⟨#[]⟩ : ByteArray)))) = false := by rw [b2, s0]; rfl
    have s2 : (bif ((bif (bif k == 2 then true else k == 3) then true else k == 4) != (!decide (s = (⟨#[]⟩ : ByteArray)))) then true else false) = false := by rw [s1]; rfl
    have hl : ((exsC ks).length : Int) = (ks.length : Int) := by rw [exsC_len]
    refine go_ ?_
    refine ev_ ?_
    exact .mk (vb_eq (by (rw [hrx, kd, hl, Bool.eq_iff_iff]; simp))) trivial
  · have hrx : rX (r + 1) (.mk k o n s ks) = false := by rw [rX, if_neg ha, if_neg (by omega), if_neg (show ¬ s = ByteArray.empty from hs)]
    have s0 : (!decide (s = (⟨#[]⟩ : ByteArray))) = true := by simpa using hs
    have s1 : ((bif (bif k == 2 then true else k == 3) then true else k == 4) != (!decide (s = (⟨#[]⟩ : ByteArray)))) = true := by rw [b2, s0]; rfl
    refine go_ ?_
    refine ev_ ?_
    exact .mk (vb_eq (by rw [hrx])) trivial
set_option maxHeartbeats 4000000 in
set_option maxRecDepth 100000 in
theorem s_rE_6 (lv lv1 : Int) (r : Nat) (k o : Int) (n : UInt32) (s : ByteArray) (ks : List Ex) (hlv : decide (lv > 24) = false) (hw : IntKind.i64.wrap (lv + 1) = lv1) (hK : k = 6) (ha : ¬ ((k ≠ 6 ∧ o ≠ 0) ∨ (k ≠ 1 ∧ n ≠ 0))) : TellsR lv lv1 r k o n s ks := by
  intro hks
  have q1 : (k == 1) = false := by rw [hK]; rfl
  have q2 : (k == 2) = false := by rw [hK]; rfl
  have q3 : (k == 3) = false := by rw [hK]; rfl
  have q4 : (k == 4) = false := by rw [hK]; rfl
  have q5 : (k == 5) = false := by rw [hK]; rfl
  have q6 : (k == 6) = true := by rw [hK]; rfl
  have q7 : (k == 7) = false := by rw [hK]; rfl
  have q8 : (k == 8) = false := by rw [hK]; rfl
  have q9 : (k == 9) = false := by rw [hK]; rfl
  have m6 : (k != 6) = false := by rw [hK]; rfl
  have m1 : (k != 1) = true := by rw [hK]; rfl
  have hn : n = 0 := by
    refine Decidable.byContradiction fun h => ha (.inr ⟨by omega, h⟩)
  have n0 := u32_eq0 hn
  have a1 : (bif decide (lv > 24) then true else false) = false := by rw [hlv]; rfl
  have a2 : (bif (bif decide (lv > 24) then true else false) then true else (bif k != 1 then ((n.toNat : Int)) != 0 else false)) = false := by rw [a1, m1, n0]; rfl
  have b1 : (bif k == 2 then true else k == 3) = false := by rw [q2, q3]; rfl
  have b2 : (bif (bif k == 2 then true else k == 3) then true else k == 4) = false := by rw [b1, q4]; rfl
  have kd : ∀ b, kdE b k o ks.length = (decide (4 ≤ o) && (decide (o ≤ 15) && (decide (ks.length = 2) && b))) := fun b => by rw [hK]; rfl
  refine spec_of_bodyL CX_mixed CX_gpk Tryd.func86 rfl 123 0 rfl rfl rfl rfl ?_
  refine go_ ?_
  by_cases hs : s = (⟨#[]⟩ : ByteArray)
  · have hrx : rX (r + 1) (.mk k o n s ks) = kdE (ks.all fun e => rX r e) k o ks.length := by rw [rX, if_neg ha, if_neg (by omega), if_pos (show s = ByteArray.empty from hs)]
    have s0 : (!decide (s = (⟨#[]⟩ : ByteArray))) = false := by rw [hs]; rfl
    have s1 : ((bif (bif k == 2 then true else k == 3) then true else k == 4) != (!decide (s = (⟨#[]⟩ : ByteArray)))) = false := by rw [b2, s0]; rfl
    have s2 : (bif ((bif (bif k == 2 then true else k == 3) then true else k == 4) != (!decide (s = (⟨#[]⟩ : ByteArray)))) then true else false) = false := by rw [s1]; rfl
    have hl : ((exsC ks).length : Int) = (ks.length : Int) := by rw [exsC_len]
    refine go_ ?_
    by_cases h4 : 4 ≤ o
    · have c1 : decide (o ≥ 4) = true := decide_eq_true (by omega)
      by_cases h15 : o ≤ 15
      · have c3 : (bif decide (o ≥ 4) then decide (o ≤ 15) else false) = true := by rw [c1]; exact decide_eq_true h15
        by_cases hc : ks.length = 2
        · have c5 : (bif (bif decide (o ≥ 4) then decide (o ≤ 15) else false) then (((exsC ks).length : Int) == 2) else false) = true := by rw [c3]; show (((exsC ks).length : Int) == 2) = true; simp only [beq_iff_eq]; omega
          refine go_ ?_
          rw [hw]
          with_reducible apply run_y
          exact want_
          · intro K hK
            refine ev_ ?_
            refine vcCall_plain (hks) (by kernel_rfl) ?_
            refine ev_ ?_
            exact hK
          refine go_ ?_
          refine ev_ ?_
          exact .mk (vb_eq (by (rw [hrx, kd]; simp [hc, h4, h15, exsC_len]))) trivial
        · have c5 : (bif (bif decide (o ≥ 4) then decide (o ≤ 15) else false) then (((exsC ks).length : Int) == 2) else false) = false := by rw [c3]; show (((exsC ks).length : Int) == 2) = false; simp only [beq_eq_false_iff_ne, ne_eq]; omega
          refine go_ ?_
          refine ev_ ?_
          exact .mk (vb_eq (by (rw [hrx, kd]; simp [hc, h4, h15]))) trivial
      · have c3 : (bif decide (o ≥ 4) then decide (o ≤ 15) else false) = false := by rw [c1]; exact decide_eq_false h15
        refine go_ ?_
        refine ev_ ?_
        exact .mk (vb_eq (by (rw [hrx, kd]; simp [h15]))) trivial
    · have c1 : decide (o ≥ 4) = false := decide_eq_false (by omega)
      refine go_ ?_
      refine ev_ ?_
      exact .mk (vb_eq (by (rw [hrx, kd]; simp [h4]))) trivial
  · have hrx : rX (r + 1) (.mk k o n s ks) = false := by rw [rX, if_neg ha, if_neg (by omega), if_neg (show ¬ s = ByteArray.empty from hs)]
    have s0 : (!decide (s = (⟨#[]⟩ : ByteArray))) = true := by simpa using hs
    have s1 : ((bif (bif k == 2 then true else k == 3) then true else k == 4) != (!decide (s = (⟨#[]⟩ : ByteArray)))) = true := by rw [b2, s0]; rfl
    refine go_ ?_
    refine ev_ ?_
    exact .mk (vb_eq (by rw [hrx])) trivial
set_option maxHeartbeats 4000000 in
set_option maxRecDepth 100000 in
theorem s_rE_7 (lv lv1 : Int) (r : Nat) (k o : Int) (n : UInt32) (s : ByteArray) (ks : List Ex) (hlv : decide (lv > 24) = false) (hw : IntKind.i64.wrap (lv + 1) = lv1) (hK : k = 7) (ha : ¬ ((k ≠ 6 ∧ o ≠ 0) ∨ (k ≠ 1 ∧ n ≠ 0))) : TellsR lv lv1 r k o n s ks := by
  intro hks
  have q1 : (k == 1) = false := by rw [hK]; rfl
  have q2 : (k == 2) = false := by rw [hK]; rfl
  have q3 : (k == 3) = false := by rw [hK]; rfl
  have q4 : (k == 4) = false := by rw [hK]; rfl
  have q5 : (k == 5) = false := by rw [hK]; rfl
  have q6 : (k == 6) = false := by rw [hK]; rfl
  have q7 : (k == 7) = true := by rw [hK]; rfl
  have q8 : (k == 8) = false := by rw [hK]; rfl
  have q9 : (k == 9) = false := by rw [hK]; rfl
  have m6 : (k != 6) = true := by rw [hK]; rfl
  have m1 : (k != 1) = true := by rw [hK]; rfl
  have ho : o = 0 := by
    refine Decidable.byContradiction fun h => ha (.inl ⟨by omega, h⟩)
  have o0 : (o != 0) = false := by rw [ho]; rfl
  have a1 : (bif decide (lv > 24) then true else (bif k != 6 then o != 0 else false)) = false := by rw [hlv, m6, o0]; rfl
  have hn : n = 0 := by
    refine Decidable.byContradiction fun h => ha (.inr ⟨by omega, h⟩)
  have n0 := u32_eq0 hn
  have a2 : (bif (bif decide (lv > 24) then true else (bif k != 6 then o != 0 else false)) then true else (bif k != 1 then ((n.toNat : Int)) != 0 else false)) = false := by rw [a1, m1, n0]; rfl
  have b1 : (bif k == 2 then true else k == 3) = false := by rw [q2, q3]; rfl
  have b2 : (bif (bif k == 2 then true else k == 3) then true else k == 4) = false := by rw [b1, q4]; rfl
  have kd : ∀ b, kdE b k o ks.length = (decide (ks.length = 1) && b) := fun b => by rw [hK]; rfl
  refine spec_of_bodyL CX_mixed CX_gpk Tryd.func86 rfl 123 0 rfl rfl rfl rfl ?_
  refine go_ ?_
  by_cases hs : s = (⟨#[]⟩ : ByteArray)
  · have hrx : rX (r + 1) (.mk k o n s ks) = kdE (ks.all fun e => rX r e) k o ks.length := by rw [rX, if_neg ha, if_neg (by omega), if_pos (show s = ByteArray.empty from hs)]
    have s0 : (!decide (s = (⟨#[]⟩ : ByteArray))) = false := by rw [hs]; rfl
    have s1 : ((bif (bif k == 2 then true else k == 3) then true else k == 4) != (!decide (s = (⟨#[]⟩ : ByteArray)))) = false := by rw [b2, s0]; rfl
    have s2 : (bif ((bif (bif k == 2 then true else k == 3) then true else k == 4) != (!decide (s = (⟨#[]⟩ : ByteArray)))) then true else false) = false := by rw [s1]; rfl
    have hl : ((exsC ks).length : Int) = (ks.length : Int) := by rw [exsC_len]
    refine go_ ?_
    by_cases hc : ks.length = 1
    · have c1 : (((exsC ks).length : Int) == 1) = true := by simp only [beq_iff_eq]; omega
      refine go_ ?_
      rw [hw]
      with_reducible apply run_y
      exact want_
      · intro K hK
        refine ev_ ?_
        refine vcCall_plain (hks) (by kernel_rfl) ?_
        refine ev_ ?_
        exact hK
      refine go_ ?_
      refine ev_ ?_
      exact .mk (vb_eq (by (rw [hrx, kd, c1, decide_eq_true hc]; rfl))) trivial
    · have c1 : (((exsC ks).length : Int) == 1) = false := by simp only [beq_eq_false_iff_ne, ne_eq]; omega
      refine go_ ?_
      refine ev_ ?_
      exact .mk (vb_eq (by (rw [hrx, kd, decide_eq_false hc]; rfl))) trivial
  · have hrx : rX (r + 1) (.mk k o n s ks) = false := by rw [rX, if_neg ha, if_neg (by omega), if_neg (show ¬ s = ByteArray.empty from hs)]
    have s0 : (!decide (s = (⟨#[]⟩ : ByteArray))) = true := by simpa using hs
    have s1 : ((bif (bif k == 2 then true else k == 3) then true else k == 4) != (!decide (s = (⟨#[]⟩ : ByteArray)))) = true := by rw [b2, s0]; rfl
    refine go_ ?_
    refine ev_ ?_
    exact .mk (vb_eq (by rw [hrx])) trivial
set_option maxHeartbeats 4000000 in
set_option maxRecDepth 100000 in
theorem s_rE_8 (lv lv1 : Int) (r : Nat) (k o : Int) (n : UInt32) (s : ByteArray) (ks : List Ex) (hlv : decide (lv > 24) = false) (hw : IntKind.i64.wrap (lv + 1) = lv1) (hK : k = 8) (ha : ¬ ((k ≠ 6 ∧ o ≠ 0) ∨ (k ≠ 1 ∧ n ≠ 0))) : TellsR lv lv1 r k o n s ks := by
  intro hks
  have q1 : (k == 1) = false := by rw [hK]; rfl
  have q2 : (k == 2) = false := by rw [hK]; rfl
  have q3 : (k == 3) = false := by rw [hK]; rfl
  have q4 : (k == 4) = false := by rw [hK]; rfl
  have q5 : (k == 5) = false := by rw [hK]; rfl
  have q6 : (k == 6) = false := by rw [hK]; rfl
  have q7 : (k == 7) = false := by rw [hK]; rfl
  have q8 : (k == 8) = true := by rw [hK]; rfl
  have q9 : (k == 9) = false := by rw [hK]; rfl
  have m6 : (k != 6) = true := by rw [hK]; rfl
  have m1 : (k != 1) = true := by rw [hK]; rfl
  have ho : o = 0 := by
    refine Decidable.byContradiction fun h => ha (.inl ⟨by omega, h⟩)
  have o0 : (o != 0) = false := by rw [ho]; rfl
  have a1 : (bif decide (lv > 24) then true else (bif k != 6 then o != 0 else false)) = false := by rw [hlv, m6, o0]; rfl
  have hn : n = 0 := by
    refine Decidable.byContradiction fun h => ha (.inr ⟨by omega, h⟩)
  have n0 := u32_eq0 hn
  have a2 : (bif (bif decide (lv > 24) then true else (bif k != 6 then o != 0 else false)) then true else (bif k != 1 then ((n.toNat : Int)) != 0 else false)) = false := by rw [a1, m1, n0]; rfl
  have b1 : (bif k == 2 then true else k == 3) = false := by rw [q2, q3]; rfl
  have b2 : (bif (bif k == 2 then true else k == 3) then true else k == 4) = false := by rw [b1, q4]; rfl
  have kd : ∀ b, kdE b k o ks.length = (decide (ks.length = 2) && b) := fun b => by rw [hK]; rfl
  refine spec_of_bodyL CX_mixed CX_gpk Tryd.func86 rfl 123 0 rfl rfl rfl rfl ?_
  refine go_ ?_
  by_cases hs : s = (⟨#[]⟩ : ByteArray)
  · have hrx : rX (r + 1) (.mk k o n s ks) = kdE (ks.all fun e => rX r e) k o ks.length := by rw [rX, if_neg ha, if_neg (by omega), if_pos (show s = ByteArray.empty from hs)]
    have s0 : (!decide (s = (⟨#[]⟩ : ByteArray))) = false := by rw [hs]; rfl
    have s1 : ((bif (bif k == 2 then true else k == 3) then true else k == 4) != (!decide (s = (⟨#[]⟩ : ByteArray)))) = false := by rw [b2, s0]; rfl
    have s2 : (bif ((bif (bif k == 2 then true else k == 3) then true else k == 4) != (!decide (s = (⟨#[]⟩ : ByteArray)))) then true else false) = false := by rw [s1]; rfl
    have hl : ((exsC ks).length : Int) = (ks.length : Int) := by rw [exsC_len]
    refine go_ ?_
    by_cases hc : ks.length = 2
    · have c1 : (((exsC ks).length : Int) == 2) = true := by simp only [beq_iff_eq]; omega
      refine go_ ?_
      rw [hw]
      with_reducible apply run_y
      exact want_
      · intro K hK
        refine ev_ ?_
        refine vcCall_plain (hks) (by kernel_rfl) ?_
        refine ev_ ?_
        exact hK
      refine go_ ?_
      refine ev_ ?_
      exact .mk (vb_eq (by (rw [hrx, kd, c1, decide_eq_true hc]; rfl))) trivial
    · have c1 : (((exsC ks).length : Int) == 2) = false := by simp only [beq_eq_false_iff_ne, ne_eq]; omega
      refine go_ ?_
      refine ev_ ?_
      exact .mk (vb_eq (by (rw [hrx, kd, decide_eq_false hc]; rfl))) trivial
  · have hrx : rX (r + 1) (.mk k o n s ks) = false := by rw [rX, if_neg ha, if_neg (by omega), if_neg (show ¬ s = ByteArray.empty from hs)]
    have s0 : (!decide (s = (⟨#[]⟩ : ByteArray))) = true := by simpa using hs
    have s1 : ((bif (bif k == 2 then true else k == 3) then true else k == 4) != (!decide (s = (⟨#[]⟩ : ByteArray)))) = true := by rw [b2, s0]; rfl
    refine go_ ?_
    refine ev_ ?_
    exact .mk (vb_eq (by rw [hrx])) trivial
set_option maxHeartbeats 4000000 in
set_option maxRecDepth 100000 in
theorem s_rE_9 (lv lv1 : Int) (r : Nat) (k o : Int) (n : UInt32) (s : ByteArray) (ks : List Ex) (hlv : decide (lv > 24) = false) (hw : IntKind.i64.wrap (lv + 1) = lv1) (hK : k = 9) (ha : ¬ ((k ≠ 6 ∧ o ≠ 0) ∨ (k ≠ 1 ∧ n ≠ 0))) : TellsR lv lv1 r k o n s ks := by
  intro hks
  have q1 : (k == 1) = false := by rw [hK]; rfl
  have q2 : (k == 2) = false := by rw [hK]; rfl
  have q3 : (k == 3) = false := by rw [hK]; rfl
  have q4 : (k == 4) = false := by rw [hK]; rfl
  have q5 : (k == 5) = false := by rw [hK]; rfl
  have q6 : (k == 6) = false := by rw [hK]; rfl
  have q7 : (k == 7) = false := by rw [hK]; rfl
  have q8 : (k == 8) = false := by rw [hK]; rfl
  have q9 : (k == 9) = true := by rw [hK]; rfl
  have m6 : (k != 6) = true := by rw [hK]; rfl
  have m1 : (k != 1) = true := by rw [hK]; rfl
  have ho : o = 0 := by
    refine Decidable.byContradiction fun h => ha (.inl ⟨by omega, h⟩)
  have o0 : (o != 0) = false := by rw [ho]; rfl
  have a1 : (bif decide (lv > 24) then true else (bif k != 6 then o != 0 else false)) = false := by rw [hlv, m6, o0]; rfl
  have hn : n = 0 := by
    refine Decidable.byContradiction fun h => ha (.inr ⟨by omega, h⟩)
  have n0 := u32_eq0 hn
  have a2 : (bif (bif decide (lv > 24) then true else (bif k != 6 then o != 0 else false)) then true else (bif k != 1 then ((n.toNat : Int)) != 0 else false)) = false := by rw [a1, m1, n0]; rfl
  have b1 : (bif k == 2 then true else k == 3) = false := by rw [q2, q3]; rfl
  have b2 : (bif (bif k == 2 then true else k == 3) then true else k == 4) = false := by rw [b1, q4]; rfl
  have kd : ∀ b, kdE b k o ks.length = (decide (ks.length = 2) && b) := fun b => by rw [hK]; rfl
  refine spec_of_bodyL CX_mixed CX_gpk Tryd.func86 rfl 123 0 rfl rfl rfl rfl ?_
  refine go_ ?_
  by_cases hs : s = (⟨#[]⟩ : ByteArray)
  · have hrx : rX (r + 1) (.mk k o n s ks) = kdE (ks.all fun e => rX r e) k o ks.length := by rw [rX, if_neg ha, if_neg (by omega), if_pos (show s = ByteArray.empty from hs)]
    have s0 : (!decide (s = (⟨#[]⟩ : ByteArray))) = false := by rw [hs]; rfl
    have s1 : ((bif (bif k == 2 then true else k == 3) then true else k == 4) != (!decide (s = (⟨#[]⟩ : ByteArray)))) = false := by rw [b2, s0]; rfl
    have s2 : (bif ((bif (bif k == 2 then true else k == 3) then true else k == 4) != (!decide (s = (⟨#[]⟩ : ByteArray)))) then true else false) = false := by rw [s1]; rfl
    have hl : ((exsC ks).length : Int) = (ks.length : Int) := by rw [exsC_len]
    refine go_ ?_
    by_cases hc : ks.length = 2
    · have c1 : (((exsC ks).length : Int) == 2) = true := by simp only [beq_iff_eq]; omega
      refine go_ ?_
      rw [hw]
      with_reducible apply run_y
      exact want_
      · intro K hK
        refine ev_ ?_
        refine vcCall_plain (hks) (by kernel_rfl) ?_
        refine ev_ ?_
        exact hK
      refine go_ ?_
      refine ev_ ?_
      exact .mk (vb_eq (by (rw [hrx, kd, c1, decide_eq_true hc]; rfl))) trivial
    · have c1 : (((exsC ks).length : Int) == 2) = false := by simp only [beq_eq_false_iff_ne, ne_eq]; omega
      refine go_ ?_
      refine ev_ ?_
      exact .mk (vb_eq (by (rw [hrx, kd, decide_eq_false hc]; rfl))) trivial
  · have hrx : rX (r + 1) (.mk k o n s ks) = false := by rw [rX, if_neg ha, if_neg (by omega), if_neg (show ¬ s = ByteArray.empty from hs)]
    have s0 : (!decide (s = (⟨#[]⟩ : ByteArray))) = true := by simpa using hs
    have s1 : ((bif (bif k == 2 then true else k == 3) then true else k == 4) != (!decide (s = (⟨#[]⟩ : ByteArray)))) = true := by rw [b2, s0]; rfl
    refine go_ ?_
    refine ev_ ?_
    exact .mk (vb_eq (by rw [hrx])) trivial
set_option maxHeartbeats 4000000 in
set_option maxRecDepth 100000 in
theorem s_rE_0 (lv lv1 : Int) (r : Nat) (k o : Int) (n : UInt32) (s : ByteArray) (ks : List Ex) (hlv : decide (lv > 24) = false) (_hw : IntKind.i64.wrap (lv + 1) = lv1) (hK : k ≠ 1 ∧ k ≠ 2 ∧ k ≠ 3 ∧ k ≠ 4 ∧ k ≠ 5 ∧ k ≠ 6 ∧ k ≠ 7 ∧ k ≠ 8 ∧ k ≠ 9) (ha : ¬ ((k ≠ 6 ∧ o ≠ 0) ∨ (k ≠ 1 ∧ n ≠ 0))) : TellsR lv lv1 r k o n s ks := by
  intro hks
  have q1 : (k == 1) = false := by simp only [beq_eq_false_iff_ne, ne_eq]; omega
  have q2 : (k == 2) = false := by simp only [beq_eq_false_iff_ne, ne_eq]; omega
  have q3 : (k == 3) = false := by simp only [beq_eq_false_iff_ne, ne_eq]; omega
  have q4 : (k == 4) = false := by simp only [beq_eq_false_iff_ne, ne_eq]; omega
  have q5 : (k == 5) = false := by simp only [beq_eq_false_iff_ne, ne_eq]; omega
  have q6 : (k == 6) = false := by simp only [beq_eq_false_iff_ne, ne_eq]; omega
  have q7 : (k == 7) = false := by simp only [beq_eq_false_iff_ne, ne_eq]; omega
  have q8 : (k == 8) = false := by simp only [beq_eq_false_iff_ne, ne_eq]; omega
  have q9 : (k == 9) = false := by simp only [beq_eq_false_iff_ne, ne_eq]; omega
  have m6 : (k != 6) = true := by simp only [bne_iff_ne, ne_eq]; omega
  have m1 : (k != 1) = true := by simp only [bne_iff_ne, ne_eq]; omega
  have ho : o = 0 := by
    refine Decidable.byContradiction fun h => ha (.inl ⟨by omega, h⟩)
  have o0 : (o != 0) = false := by rw [ho]; rfl
  have a1 : (bif decide (lv > 24) then true else (bif k != 6 then o != 0 else false)) = false := by rw [hlv, m6, o0]; rfl
  have hn : n = 0 := by
    refine Decidable.byContradiction fun h => ha (.inr ⟨by omega, h⟩)
  have n0 := u32_eq0 hn
  have a2 : (bif (bif decide (lv > 24) then true else (bif k != 6 then o != 0 else false)) then true else (bif k != 1 then ((n.toNat : Int)) != 0 else false)) = false := by rw [a1, m1, n0]; rfl
  have b1 : (bif k == 2 then true else k == 3) = false := by rw [q2, q3]; rfl
  have b2 : (bif (bif k == 2 then true else k == 3) then true else k == 4) = false := by rw [b1, q4]; rfl
  have kd : ∀ b, kdE b k o ks.length = false := fun b => by unfold kdE; rw [if_neg (by omega), if_neg (by omega), if_neg (by omega), if_neg (by omega), if_neg (by omega)]
  refine spec_of_bodyL CX_mixed CX_gpk Tryd.func86 rfl 123 0 rfl rfl rfl rfl ?_
  refine go_ ?_
  by_cases hs : s = (⟨#[]⟩ : ByteArray)
  · have hrx : rX (r + 1) (.mk k o n s ks) = kdE (ks.all fun e => rX r e) k o ks.length := by rw [rX, if_neg ha, if_neg (by omega), if_pos (show s = ByteArray.empty from hs)]
    have s0 : (!decide (s = (⟨#[]⟩ : ByteArray))) = false := by rw [hs]; rfl
    have s1 : ((bif (bif k == 2 then true else k == 3) then true else k == 4) != (!decide (s = (⟨#[]⟩ : ByteArray)))) = false := by rw [b2, s0]; rfl
    have s2 : (bif ((bif (bif k == 2 then true else k == 3) then true else k == 4) != (!decide (s = (⟨#[]⟩ : ByteArray)))) then true else false) = false := by rw [s1]; rfl
    have hl : ((exsC ks).length : Int) = (ks.length : Int) := by rw [exsC_len]
    refine go_ ?_
    refine ev_ ?_
    exact .mk (vb_eq (by rw [hrx, kd])) trivial
  · have hrx : rX (r + 1) (.mk k o n s ks) = false := by rw [rX, if_neg ha, if_neg (by omega), if_neg (show ¬ s = ByteArray.empty from hs)]
    have s0 : (!decide (s = (⟨#[]⟩ : ByteArray))) = true := by simpa using hs
    have s1 : ((bif (bif k == 2 then true else k == 3) then true else k == 4) != (!decide (s = (⟨#[]⟩ : ByteArray)))) = true := by rw [b2, s0]; rfl
    refine go_ ?_
    refine ev_ ?_
    exact .mk (vb_eq (by rw [hrx])) trivial
theorem s_rE (lv lv1 : Int) (r : Nat) (k o : Int) (n : UInt32) (s : ByteArray) (ks : List Ex) (hlv : decide (lv > 24) = false) (hw : IntKind.i64.wrap (lv + 1) = lv1) : TellsR lv lv1 r k o n s ks := by
  by_cases ha : (k ≠ 6 ∧ o ≠ 0) ∨ (k ≠ 1 ∧ n ≠ 0)
  · exact s_rE_A lv lv1 r k o n s ks hlv ha
  by_cases h1 : k = 1
  · exact s_rE_1 lv lv1 r k o n s ks hlv hw h1 ha
  by_cases h2 : k = 2
  · exact s_rE_2 lv lv1 r k o n s ks hlv hw h2 ha
  by_cases h3 : k = 3
  · exact s_rE_3 lv lv1 r k o n s ks hlv hw h3 ha
  by_cases h4 : k = 4
  · exact s_rE_4 lv lv1 r k o n s ks hlv hw h4 ha
  by_cases h5 : k = 5
  · exact s_rE_5 lv lv1 r k o n s ks hlv hw h5 ha
  by_cases h6 : k = 6
  · exact s_rE_6 lv lv1 r k o n s ks hlv hw h6 ha
  by_cases h7 : k = 7
  · exact s_rE_7 lv lv1 r k o n s ks hlv hw h7 ha
  by_cases h8 : k = 8
  · exact s_rE_8 lv lv1 r k o n s ks hlv hw h8 ha
  by_cases h9 : k = 9
  · exact s_rE_9 lv lv1 r k o n s ks hlv hw h9 ha
  exact s_rE_0 lv lv1 r k o n s ks hlv hw ⟨h1, h2, h3, h4, h5, h6, h7, h8, h9⟩ ha
theorem all_notX {l : List Ex} {r j : Nat} {e : Ex} (hj : j < l.length) (he : l[j] = e) (h : rX r e = false) : (l.all fun e => rX r e) = false := by
  rw [List.all_eq_false]
  exact ⟨l[j], List.getElem_mem hj, by rw [he, h]; decide⟩
theorem all_yesX {l : List Ex} {r : Nat} (h : ∀ i (hi : i < l.length), rX r l[i] = true) : (l.all fun e => rX r e) = true := by
  rw [List.all_eq_true]
  intro b hb
  obtain ⟨i, hi, rfl⟩ := List.getElem_of_mem hb
  exact h i hi
set_option maxHeartbeats 4000000 in
set_option maxRecDepth 100000 in
theorem s_rEs (lv : Int) (r : Nat) (l : List Ex) (hl : l.length ≤ 1000000) (ih : ∀ e ∈ l, Spec (Ctx.mk Tryd.prog globT 7 LaidT) 86 [.agg (exC e), .v (.int .i64 lv)] [] (.v (.bool (rX r e))) []) : Spec (Ctx.mk Tryd.prog globT 7 LaidT) 77 [.sl .any (exsC l), .v (.int .i64 lv)] [] (.v (.bool (l.all fun e => rX r e))) [] := by
  refine spec_of_bodyL CX_mixed CX_gpk Tryd.func77 rfl 19 0 rfl rfl rfl rfl ?_
  refine go_ ?_
  refine c_loop (fun k q m h => ∃ j : Nat, j ≤ l.length ∧ (∀ i (hi : i < l.length), i < j → rX r l[i] = true) ∧ k = l.length - j ∧ q = [.sl .any (exsC l), .v (.int .i64 lv), .top, .top, .top, .v (.int .i64 (j : Int))] ++ List.replicate 13 .top ∧ m = 1 ∧ h = [])
    ⟨_, _, _, _, ?_, ?_, ⟨0, Nat.zero_le _, fun i hi h => by omega, rfl, rfl, rfl, rfl⟩⟩ ?_
  · rfl
  · skip
    exact sub_
  rintro k q m h hlen ⟨j, hj, hn, rfl, rfl, rfl, rfl⟩
  clear hlen
  refine go_ ?_
  first | refine run_b rfl rfl rfl (fun hb => ?_) (fun hb => ?_) | refine c_cond rfl (fun hb => ?_) (fun hb => ?_)
  · have hj' : j < l.length := by have := of_decide_eq_true hb; rw [exsC_len] at this; omega
    have hw2 : IntKind.i64.wrap ((j : Int) + 1) = ((j + 1 : Nat) : Int) := by rw [wrap64 (by omega) (by omega)]; omega
    have hat := exsC_at hj'
    have hI := ih _ (List.getElem_mem hj')
    have hnot := fun h => all_notX (r := r) hj' rfl h
    have hyes : rX r l[j] = true → ∀ i (hi : i < l.length), i < j + 1 → rX r l[i] = true := fun h i hi hij => by
      by_cases e : i = j
      · subst e; exact h
      · exact hn i hi (by omega)
    generalize l[j] = e at *
    obtain ⟨ek, eo, en, es, eks⟩ := e
    by_cases he : rX r (.mk ek eo en es eks) = true
    · have g1 : (!rX r (.mk ek eo en es eks)) = false := by rw [he]; rfl
      refine go_ ?_
      with_reducible apply run_y
      exact want_
      · intro K hK
        refine ev_ ?_
        refine ⟨j, _, rfl, hat, rfl, ?_⟩
        refine ev_ ?_
        exact hK
      refine go_ ?_
      with_reducible apply run_y
      exact want_
      · intro K hK
        refine ev_ ?_
        refine vcCall_plain (hI) (by kernel_rfl) ?_
        refine ev_ ?_
        exact hK
      refine go_ ?_
      rw [hw2]
      refine c_round ⟨_, _, _, _, ?_, ?_, ?_, ⟨j + 1, by omega, hyes he, rfl, rfl, rfl, rfl⟩⟩
      · omega
      · rfl
      · skip
        exact sub_
    · have g1 : (!rX r (.mk ek eo en es eks)) = true := by simpa using he
      refine go_ ?_
      with_reducible apply run_y
      exact want_
      · intro K hK
        refine ev_ ?_
        refine ⟨j, _, rfl, hat, rfl, ?_⟩
        refine ev_ ?_
        exact hK
      refine go_ ?_
      with_reducible apply run_y
      exact want_
      · intro K hK
        refine ev_ ?_
        refine vcCall_plain (hI) (by kernel_rfl) ?_
        refine ev_ ?_
        exact hK
      refine go_ ?_
      refine ev_ ?_
      exact .mk (vb_eq (by rw [hnot (by simpa using he)])) trivial
  have hj' : j = l.length := by have := of_decide_eq_false hb; rw [exsC_len] at this; omega
  subst hj'
  refine go_ ?_
  refine ev_ ?_
  exact .mk (vb_eq (by rw [all_yesX (fun i hi => hn i hi hi)])) trivial
end Go.Proofs.YtddggjmfplohkaaDoor
