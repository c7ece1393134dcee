import Derived.Test.YtddggjmfplohkaaDoorTf
import Derived.Test.YtddggjmfplohkaaDoorTx
/- How many parts a program has, the document's: walked. -/
namespace Go.Proofs.YtddggjmfplohkaaDoor
open Go.RowKit
set_option linter.unnecessarySimpa false
theorem smsC_at' {l : List Sm} {j : Nat} (h : j < l.length) : (smsC l)[j]? = some (smC l[j]) := by rw [smsC_eq]; simp [h]
theorem int_eq {a b : Int} (h : a = b) : PV.v (.int .i64 a) = .v (.int .i64 b) := by rw [h]
theorem stop_X (d : Nat) : ∀ (l : List Ex) (a : Int), ¬ 0 < a → l.foldl (stepX d) a = a
  | [], _, _ => rfl
  | e :: l, a, h => by
    have hst : stepX d a e = a := by unfold stepX; rw [if_neg h]
    rw [List.foldl_cons, hst]
    exact stop_X d l a h
theorem stop_S (d : Nat) : ∀ (l : List Sm) (a : Int), ¬ 0 < a → l.foldl (stepS d) a = a
  | [], _, _ => rfl
  | e :: l, a, h => by
    have hst : stepS d a e = a := by unfold stepS; rw [if_neg h]
    rw [List.foldl_cons, hst]
    exact stop_S d l a h
theorem stop_F : ∀ (l : List Fu) (a : Int), ¬ 0 < a → l.foldl stepF a = a
  | [], _, _ => rfl
  | e :: l, a, h => by
    have hst : stepF a e = a := by unfold stepF; rw [if_neg h]
    rw [List.foldl_cons, hst]
    exact stop_F l a h
def SpX (d : Nat) : Prop := ∀ (l : List Ex) (left : Int), l.length ≤ reachBytes → (∀ e ∈ l, ExL e) → 0 < left → left ≤ 1000 → Spec (Ctx.mk Tryd.prog globT 7 LaidT) 57 [.sl .any (exsC l), .v (.int .i64 left), .v (.int .i64 (d : Int))] [] (.v (.int .i64 (fewX d l left))) []
set_option maxHeartbeats 2000000 in
set_option maxRecDepth 100000 in
theorem s_few0 : SpX 0 := by
  intro l left _ _ _ _
  refine spec_of_bodyL CX_mixed CX_gpk Tryd.func57 rfl 34 0 rfl rfl rfl rfl ?_
  refine go_ ?_
  refine ev_ ?_
  exact .mk (by rfl) trivial
set_option maxHeartbeats 4000000 in
set_option maxRecDepth 100000 in
theorem s_few1 (d : Nat) (hd : d ≤ 100) (ih : SpX d) (l : List Ex) (left : Int) (hl : l.length ≤ reachBytes) (hL : ∀ e ∈ l, ExL e) (h0 : 0 < left) (h1 : left ≤ 1000) : Spec (Ctx.mk Tryd.prog globT 7 LaidT) 57 [.sl .any (exsC l), .v (.int .i64 left), .v (.int .i64 ((d : Int) + 1))] [] (.v (.int .i64 (fewX (d + 1) l left))) [] := by
  have hr : reachBytes = 140737488351232 := rfl
  have hlow : lowN = -200000000000000 := rfl
  have g0 : (((d : Int) + 1) == 0) = false := by simp; omega
  have hw0 : IntKind.i64.wrap (left - ((exsC l).length : Int)) = left - (l.length : Int) := by rw [exsC_len, wrap64 (by omega) (by omega)]
  have hwd : IntKind.i64.wrap ((d : Int) + 1 - 1) = (d : Int) := by rw [wrap64 (by omega) (by omega)]; omega
  refine spec_of_bodyL CX_mixed CX_gpk Tryd.func57 rfl 34 0 rfl rfl rfl rfl ?_
  refine go_ ?_
  rw [hw0]
  refine c_loop (fun k q m h => ∃ (j : Nat) (a : Int), j ≤ l.length ∧ lowN ≤ a ∧ a ≤ 1000 ∧ (l.drop j).foldl (stepX d) a = fewX (d + 1) l left ∧ k = l.length - j ∧ q = [.sl .any (exsC l), .v (.int .i64 a), .v (.int .i64 ((d : Int) + 1)), .top, .top, .top, .top, .v (.int .i64 (j : Int))] ++ List.replicate 26 .top ∧ m = 1 ∧ h = [])
    ⟨_, _, _, _, ?_, ?_, ⟨0, _, Nat.zero_le _, ?_, ?_, fewX_s d l left, rfl, rfl, rfl, rfl⟩⟩ ?_
  · rfl
  · skip
    exact sub_
  · omega
  · omega
  rintro k q m h hlen ⟨j, a, hj, ha1, ha2, ht, rfl, rfl, rfl, rfl⟩
  clear hlen
  have hfin : ∀ x : Int, x = fewX (d + 1) l left → (l.drop j).foldl (stepX d) a = x := fun x hx => by rw [hx]; exact ht
  by_cases hj' : j < l.length
  · have g1 : decide ((j : Int) < ((exsC l).length : Int)) = true := by rw [exsC_len]; exact decide_eq_true (by omega)
    by_cases hp : 0 < a
    · have g2 : (bif decide ((j : Int) < ((exsC l).length : Int)) then decide (a > 0) else false) = true := by rw [g1]; exact decide_eq_true hp
      have hw2 : IntKind.i64.wrap ((j : Int) + 1) = ((j + 1 : Nat) : Int) := by rw [wrap64 (by omega) (by omega)]; omega
      rw [drop_at hj', List.foldl_cons] at ht
      have hat := exsC_at hj'
      have hle := exL_ks (hL _ (List.getElem_mem hj'))
      generalize l[j] = e at *
      obtain ⟨ek, eo, en, es, eks⟩ := e
      have hst : stepX d a (.mk ek eo en es eks) = fewX d eks a := by unfold stepX; rw [if_pos hp]; rfl
      obtain ⟨hb1, hb2⟩ := fewX_in d eks hle.1 hle.2 a (by omega) ha2
      have hc := ih eks a hle.1 hle.2 hp ha2
      rw [hst] at ht
      clear hst hle hfin hw0
      refine go_ ?_
      with_reducible apply run_y
      exact want_
      · intro K hK
        refine ev_ ?_
        refine ⟨j, _, rfl, hat, rfl, ?_⟩
        refine ev_ ?_
        exact hK
      refine go_ ?_
      rw [hwd]
      with_reducible apply run_y
      exact want_
      · intro K hK
        refine ev_ ?_
        refine vcCall_plain (hc) (by kernel_rfl) ?_
        refine ev_ ?_
        exact hK
      refine go_ ?_
      rw [hw2]
      refine c_round ⟨_, _, _, _, ?_, ?_, ?_, ⟨j + 1, fewX d eks a, by omega, hb1, by omega, ht, rfl, rfl, rfl, rfl⟩⟩
      · omega
      · rfl
      · skip
        exact sub_
    · have g2 : (bif decide ((j : Int) < ((exsC l).length : Int)) then decide (a > 0) else false) = false := by rw [g1]; exact decide_eq_false hp
      have e0 : a = fewX (d + 1) l left := by rw [← ht, stop_X d _ a hp]
      refine go_ ?_
      refine ev_ ?_
      exact .mk (by exact int_eq e0) trivial
  · have g1 : decide ((j : Int) < ((exsC l).length : Int)) = false := by rw [exsC_len]; exact decide_eq_false (by omega)
    have e0 : a = fewX (d + 1) l left := by
      rw [← ht, show j = l.length by omega, List.drop_length]; rfl
    refine go_ ?_
    refine ev_ ?_
    exact .mk (by exact int_eq e0) trivial
theorem few_ok : ∀ d, d ≤ 100 → SpX d
  | 0, _ => s_few0
  | d + 1, hd => fun l left hl hL h0 h1 => s_few1 d (by omega) (few_ok d (by omega)) l left hl hL h0 h1
def SpS (d : Nat) : Prop := ∀ (l : List Sm) (left : Int), l.length ≤ reachBytes → (∀ e ∈ l, SmL e) → 0 < left → left ≤ 1000 → Spec (Ctx.mk Tryd.prog globT 7 LaidT) 30 [.sl .any (smsC l), .v (.int .i64 left), .v (.int .i64 (d : Int))] [] (.v (.int .i64 (fewS d l left))) []
set_option maxHeartbeats 2000000 in
set_option maxRecDepth 100000 in
theorem s_fewS0 : SpS 0 := by
  intro l left _ _ _ _
  refine spec_of_bodyL CX_mixed CX_gpk Tryd.func30 rfl 56 0 rfl rfl rfl rfl ?_
  refine go_ ?_
  refine ev_ ?_
  exact .mk (by rfl) trivial
set_option maxHeartbeats 4000000 in
set_option maxRecDepth 100000 in
theorem s_fewS1 (d : Nat) (hd : d ≤ 90) (ih : SpS d) (l : List Sm) (left : Int) (hl : l.length ≤ reachBytes) (hL : ∀ e ∈ l, SmL e) (h0 : 0 < left) (h1 : left ≤ 1000) : Spec (Ctx.mk Tryd.prog globT 7 LaidT) 30 [.sl .any (smsC l), .v (.int .i64 left), .v (.int .i64 ((d : Int) + 1))] [] (.v (.int .i64 (fewS (d + 1) l left))) [] := by
  have hr : reachBytes = 140737488351232 := rfl
  have hlow : lowN = -200000000000000 := rfl
  have g0 : (((d : Int) + 1) == 0) = false := by simp; omega
  have hw0 : IntKind.i64.wrap (left - ((smsC l).length : Int)) = left - (l.length : Int) := by rw [smsC_len, wrap64 (by omega) (by omega)]
  have hwd : IntKind.i64.wrap ((d : Int) + 1 - 1) = (d : Int) := by rw [wrap64 (by omega) (by omega)]; omega
  refine spec_of_bodyL CX_mixed CX_gpk Tryd.func30 rfl 56 0 rfl rfl rfl rfl ?_
  refine go_ ?_
  rw [hw0]
  refine c_loop (fun k q m h => ∃ (j : Nat) (a : Int), j ≤ l.length ∧ lowN ≤ a ∧ a ≤ 1000 ∧ (l.drop j).foldl (stepS d) a = fewS (d + 1) l left ∧ k = l.length - j ∧ q = [.sl .any (smsC l), .v (.int .i64 a), .v (.int .i64 ((d : Int) + 1)), .top, .top, .top, .top, .v (.int .i64 (j : Int))] ++ List.replicate 48 .top ∧ m = 1 ∧ h = [])
    ⟨_, _, _, _, ?_, ?_, ⟨0, _, Nat.zero_le _, ?_, ?_, fewS_s d l left, rfl, rfl, rfl, rfl⟩⟩ ?_
  · rfl
  · skip
    exact sub_
  · omega
  · omega
  rintro k q m h hlen ⟨j, a, hj, ha1, ha2, ht, rfl, rfl, rfl, rfl⟩
  clear hlen
  by_cases hj' : j < l.length
  · have g1 : decide ((j : Int) < ((smsC l).length : Int)) = true := by rw [smsC_len]; exact decide_eq_true (by omega)
    by_cases hp : 0 < a
    · have g2 : (bif decide ((j : Int) < ((smsC l).length : Int)) then decide (a > 0) else false) = true := by rw [g1]; exact decide_eq_true hp
      have hw2 : IntKind.i64.wrap ((j : Int) + 1) = ((j + 1 : Nat) : Int) := by rw [wrap64 (by omega) (by omega)]; omega
      rw [drop_at hj', List.foldl_cons] at ht
      have hat := smsC_at' hj'
      have hle := smL_ks (hL _ (List.getElem_mem hj'))
      generalize l[j] = e at *
      obtain ⟨ek, es, ee, et, ef⟩ := e
      have hst : stepS d a (.mk ek es ee et ef) = tlS d (.mk ek es ee et ef) (fewX d ee a) := by unfold stepS; rw [if_pos hp]; rfl
      obtain ⟨⟨q1, q2, q3⟩, q4, q5, q6⟩ := hle
      obtain ⟨hb1, hb2⟩ := fewX_in d ee q1 q4 a (by omega) ha2
      have hc := few_ok d (by omega) ee a q1 q4 hp ha2
      rw [hst] at ht
      clear hst hw0
      refine go_ ?_
      with_reducible apply run_y
      exact want_
      · intro K hK
        refine ev_ ?_
        refine ⟨j, _, rfl, hat, rfl, ?_⟩
        refine ev_ ?_
        exact hK
      refine go_ ?_
      rw [hwd]
      with_reducible apply run_y
      exact want_
      · intro K hK
        refine ev_ ?_
        refine vcCall_plain (hc) (by kernel_rfl) ?_
        refine ev_ ?_
        exact hK
      refine go_ ?_
      clear hc
      by_cases hp1 : 0 < fewX d ee a
      · have g3 : decide (fewX d ee a > 0) = true := decide_eq_true hp1
        obtain ⟨hb3, hb4⟩ := fewS_in d et q2 q5 (fewX d ee a) (by omega) (by omega)
        have hc := ih et (fewX d ee a) q2 q5 hp1 (by omega)
        have hst : tlS d (.mk ek es ee et ef) (fewX d ee a) = if 0 < fewS d et (fewX d ee a) then fewS d ef (fewS d et (fewX d ee a)) else fewS d et (fewX d ee a) := by unfold tlS; rw [if_pos hp1]; rfl
        rw [hst] at ht
        clear hst
        generalize fewX d ee a = b at *
        refine go_ ?_
        with_reducible apply run_y
        exact want_
        · intro K hK
          refine ev_ ?_
          refine ⟨j, _, rfl, hat, rfl, ?_⟩
          refine ev_ ?_
          exact hK
        refine go_ ?_
        rw [hwd]
        with_reducible apply run_y
        exact want_
        · intro K hK
          refine ev_ ?_
          refine vcCall_plain (hc) (by kernel_rfl) ?_
          refine ev_ ?_
          exact hK
        refine go_ ?_
        clear hc
        by_cases hp2 : 0 < fewS d et b
        · have g4 : decide (fewS d et b > 0) = true := decide_eq_true hp2
          obtain ⟨hb5, hb6⟩ := fewS_in d ef q3 q6 (fewS d et b) (by omega) (by omega)
          have hc := ih ef (fewS d et b) q3 q6 hp2 (by omega)
          rw [if_pos hp2] at ht
          generalize fewS d et b = c at *
          refine go_ ?_
          with_reducible apply run_y
          exact want_
          · intro K hK
            refine ev_ ?_
            refine ⟨j, _, rfl, hat, rfl, ?_⟩
            refine ev_ ?_
            exact hK
          refine go_ ?_
          rw [hwd]
          with_reducible apply run_y
          exact want_
          · intro K hK
            refine ev_ ?_
            refine vcCall_plain (hc) (by kernel_rfl) ?_
            refine ev_ ?_
            exact hK
          refine go_ ?_
          rw [hw2]
          refine c_round ⟨_, _, _, _, ?_, ?_, ?_, ⟨j + 1, fewS d ef c, by omega, hb5, by omega, ht, rfl, rfl, rfl, rfl⟩⟩
          · omega
          · rfl
          · skip
            exact sub_
        · have g4 : decide (fewS d et b > 0) = false := decide_eq_false hp2
          rw [if_neg hp2] at ht
          refine go_ ?_
          rw [hw2]
          refine c_round ⟨_, _, _, _, ?_, ?_, ?_, ⟨j + 1, fewS d et b, by omega, hb3, by omega, ht, rfl, rfl, rfl, rfl⟩⟩
          · omega
          · rfl
          · skip
            exact sub_
      · have g3 : decide (fewX d ee a > 0) = false := decide_eq_false hp1
        have hst : tlS d (.mk ek es ee et ef) (fewX d ee a) = fewX d ee a := by unfold tlS; rw [if_neg hp1]
        rw [hst] at ht
        clear hst
        refine go_ ?_
        rw [hw2]
        refine c_round ⟨_, _, _, _, ?_, ?_, ?_, ⟨j + 1, fewX d ee a, by omega, hb1, by omega, ht, rfl, rfl, rfl, rfl⟩⟩
        · omega
        · rfl
        · skip
          exact sub_
    · have g2 : (bif decide ((j : Int) < ((smsC l).length : Int)) then decide (a > 0) else false) = false := by rw [g1]; exact decide_eq_false hp
      have e0 : a = fewS (d + 1) l left := by rw [← ht, stop_S d _ a hp]
      refine go_ ?_
      refine ev_ ?_
      exact .mk (by exact int_eq e0) trivial
  · have g1 : decide ((j : Int) < ((smsC l).length : Int)) = false := by rw [smsC_len]; exact decide_eq_false (by omega)
    have e0 : a = fewS (d + 1) l left := by
      rw [← ht, show j = l.length by omega, List.drop_length]; rfl
    refine go_ ?_
    refine ev_ ?_
    exact .mk (by exact int_eq e0) trivial
theorem fewS_ok : ∀ d, d ≤ 90 → SpS d
  | 0, _ => s_fewS0
  | d + 1, hd => fun l left hl hL h0 h1 => s_fewS1 d (by omega) (fewS_ok d (by omega)) l left hl hL h0 h1
end Go.Proofs.YtddggjmfplohkaaDoor
