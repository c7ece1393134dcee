import Derived.Test.YtddggjmfplohkaaDoorTw
import Derived.Test.YtddggjmfplohkaaDoorPb
/- The document's names. -/
namespace Go.Proofs.YtddggjmfplohkaaDoor
open Go.RowKit
set_option linter.unnecessarySimpa false
def letterE (b : UInt8) : Bool := (decide (97 ≤ b.toNat) && decide (b.toNat ≤ 122)) || (decide (65 ≤ b.toNat) && decide (b.toNat ≤ 90))
def digitE (b : UInt8) : Bool := decide (48 ≤ b.toNat) && decide (b.toNat ≤ 57)
noncomputable def hasB (s : ByteArray) (l : List ByteArray) : Bool := @decide (s ∈ l) (Classical.propDecidable _)
theorem hasB_t {s : ByteArray} {l : List ByteArray} (h : s ∈ l) : hasB s l = true := by unfold hasB; simpa using h
theorem hasB_f {s : ByteArray} {l : List ByteArray} (h : s ∉ l) : hasB s l = false := by unfold hasB; simpa using h
def inE (b : UInt8) : Bool := letterE b || digitE b || decide (b.toNat = 95)
/-- May a text be a name? -/
noncomputable def nmE (s : ByteArray) : Bool := decide (s.size ≠ 0) && decide (s.size ≤ 20) && letterE (s.data.getD 0 0) && !hasB s wordsL && s.data.toList.all inE
theorem ba_at {s : ByteArray} {j : Nat} (h : j < s.size) : s[j]? = some (s.data.getD j 0) := by
  rw [getElem?_pos s j h]
  have : j < s.data.size := h
  simp only [Array.getD, this, dite_true]
  rfl
end Go.Proofs.YtddggjmfplohkaaDoor

/- The lexer's small functions, walked. -/
namespace Go.Proofs.YtddggjmfplohkaaDoor
open Go Go.RowKit
set_option maxRecDepth 100000 in
theorem s_letter (b : UInt8) : Spec (Ctx.mk Tryd.prog globU 7 LaidU) 51 [.v (.int .u8 (b.toNat : Int))] [] (.v (.bool (letterE b))) [] := by
  refine spec_of_bodyL CX_mixed CU_gpk Tryd.func51 rfl 17 0 rfl rfl rfl rfl ?_
  by_cases h1 : 97 ≤ b.toNat
  · have g1 : decide ((b.toNat : Int) ≥ 97) = true := decide_eq_true (by omega)
    by_cases h2 : b.toNat ≤ 122
    · have g2 : (bif decide ((b.toNat : Int) ≥ 97) then decide ((b.toNat : Int) ≤ 122) else false) = true := by rw [g1]; exact decide_eq_true (by omega)
      refine go_ ?_
      refine ev_ ?_
      exact .mk (vb_eq (by (rw [Bool.eq_iff_iff]; simp [letterE]; omega))) trivial
    · have g2 : (bif decide ((b.toNat : Int) ≥ 97) then decide ((b.toNat : Int) ≤ 122) else false) = false := by rw [g1]; exact decide_eq_false (by omega)
      have g3 : decide ((b.toNat : Int) ≥ 65) = true := decide_eq_true (by omega)
      refine go_ ?_
      refine ev_ ?_
      exact .mk (vb_eq (by (rw [Bool.eq_iff_iff]; simp [letterE]; omega))) trivial
  · have g1 : decide ((b.toNat : Int) ≥ 97) = false := decide_eq_false (by omega)
    by_cases h3 : 65 ≤ b.toNat
    · have g3 : decide ((b.toNat : Int) ≥ 65) = true := decide_eq_true (by omega)
      refine go_ ?_
      refine ev_ ?_
      exact .mk (vb_eq (by (rw [Bool.eq_iff_iff]; simp [letterE]; omega))) trivial
    · have g3 : decide ((b.toNat : Int) ≥ 65) = false := decide_eq_false (by omega)
      refine go_ ?_
      refine ev_ ?_
      exact .mk (vb_eq (by (rw [Bool.eq_iff_iff]; simp [letterE]; omega))) trivial
set_option maxRecDepth 100000 in
theorem s_digit (b : UInt8) : Spec (Ctx.mk Tryd.prog globU 7 LaidU) 48 [.v (.int .u8 (b.toNat : Int))] [] (.v (.bool (digitE b))) [] := by
  refine spec_of_bodyL CX_mixed CU_gpk Tryd.func48 rfl 9 0 rfl rfl rfl rfl ?_
  by_cases h1 : 48 ≤ b.toNat
  · have g1 : decide ((b.toNat : Int) ≥ 48) = true := decide_eq_true (by omega)
    refine go_ ?_
    refine ev_ ?_
    exact .mk (vb_eq (by (rw [Bool.eq_iff_iff]; simp [digitE]; omega))) trivial
  · have g1 : decide ((b.toNat : Int) ≥ 48) = false := decide_eq_false (by omega)
    refine go_ ?_
    refine ev_ ?_
    exact .mk (vb_eq (by (rw [Bool.eq_iff_iff]; simp [digitE]; omega))) trivial
theorem dec95 (b : UInt8) : ((b.toNat : Int) == 95) = decide (b.toNat = 95) := by
  rw [Bool.eq_iff_iff]; simp; omega
set_option maxRecDepth 100000 in
theorem s_inName (b : UInt8) : Spec (Ctx.mk Tryd.prog globU 7 LaidU) 53 [.v (.int .u8 (b.toNat : Int))] [] (.v (.bool (inE b))) [] := by
  refine spec_of_bodyL CX_mixed CU_gpk Tryd.func53 rfl 13 0 rfl rfl rfl rfl ?_
  by_cases h1 : letterE b = true
  · skip
    refine go_ ?_
    with_reducible apply run_y
    exact want_
    · intro K hK
      refine ev_ ?_
      refine vcCall_plain (s_letter b) (by kernel_rfl) ?_
      refine ev_ ?_
      exact hK
    refine go_ ?_
    have e : inE b = true := by unfold inE; rw [h1]; rfl
    refine ev_ ?_
    exact .mk (vb_eq (by (simp [e]))) trivial
  · have h1 : letterE b = false := by simpa using h1
    refine go_ ?_
    with_reducible apply run_y
    exact want_
    · intro K hK
      refine ev_ ?_
      refine vcCall_plain (s_letter b) (by kernel_rfl) ?_
      refine ev_ ?_
      exact hK
    refine go_ ?_
    by_cases h2 : digitE b = true
    · have g2 : (bif letterE b then true else digitE b) = true := by rw [h1, h2]; rfl
      have e : inE b = true := by unfold inE; rw [h1, h2]; rfl
      refine go_ ?_
      with_reducible apply run_y
      exact want_
      · intro K hK
        refine ev_ ?_
        refine vcCall_plain (s_digit b) (by kernel_rfl) ?_
        refine ev_ ?_
        exact hK
      refine go_ ?_
      refine ev_ ?_
      exact .mk (vb_eq (by (simp [e]))) trivial
    · have h2 : digitE b = false := by simpa using h2
      have g2 : (bif letterE b then true else digitE b) = false := by rw [h1, h2]; rfl
      have e : inE b = decide (b.toNat = 95) := by unfold inE; rw [h1, h2]; rfl
      refine go_ ?_
      with_reducible apply run_y
      exact want_
      · intro K hK
        refine ev_ ?_
        refine vcCall_plain (s_digit b) (by kernel_rfl) ?_
        refine ev_ ?_
        exact hK
      refine go_ ?_
      refine ev_ ?_
      exact .mk (vb_eq (by (rw [g2, e]; exact dec95 b))) trivial
def notNl (b : UInt8) : Bool := b != 10
set_option maxRecDepth 100000 in
theorem s_notNl (b : UInt8) : Spec (Ctx.mk Tryd.prog globU 7 LaidU) 25 [.v (.int .u8 (b.toNat : Int))] [] (.v (.bool (notNl b))) [] := by
  refine spec_of_bodyL CX_mixed CU_gpk Tryd.func25 rfl 5 0 rfl rfl rfl rfl ?_
  refine go_ ?_
  refine ev_ ?_
  exact .mk (vb_eq (by (unfold notNl; rw [Bool.eq_iff_iff]; simp only [bne_iff_ne, ne_eq, ← UInt8.toNat_inj]; rw [show (10 : UInt8).toNat = 10 from rfl]; omega))) trivial
/-- A text's first bytes, as long as they are such. -/
def frN (P : UInt8 → Bool) (s : ByteArray) : Nat := (s.data.toList.takeWhile P).length
theorem tw_len {P : UInt8 → Bool} : ∀ (l : List UInt8) (j : Nat), j ≤ l.length → (∀ i (hi : i < l.length), i < j → P l[i] = true) → (∀ (hj : j < l.length), P l[j] = false) → (l.takeWhile P).length = j
  | [], j, hj, _, _ => by simp at hj; subst hj; rfl
  | x :: l, 0, _, _, h => by
    have := h (by simp)
    simp only [List.getElem_cons_zero] at this
    rw [List.takeWhile_cons, this]; rfl
  | x :: l, j + 1, hj, h1, h2 => by
    have h0 := h1 0 (by simp) (by omega)
    simp only [List.getElem_cons_zero] at h0
    rw [List.takeWhile_cons, h0]
    simp only [if_true, List.length_cons]
    rw [tw_len l j (by simpa using hj) (fun i hi hij => by have := h1 (i + 1) (by simpa using hi) (by omega); simpa using this) (fun hj' => by have := h2 (by simpa using hj'); simpa using this)]
theorem ba_get {s : ByteArray} {i : Nat} (hi : i < s.data.toList.length) : s.data.toList[i] = s.data.getD i 0 := by
  have h : i < s.data.size := by simpa using hi
  unfold Array.getD
  rw [dif_pos h]
  rfl
set_option maxHeartbeats 4000000 in
set_option maxRecDepth 100000 in
theorem s_frontD (s : ByteArray) (hsz : s.size ≤ 1000000000) : Spec (Ctx.mk Tryd.prog globU 7 LaidU) 24 [.v (.string s), .v (.func (.func 48) #[] #[])] [] (.v (.string (s.extract 0 (frN digitE s)))) [] := by
  refine spec_of_bodyL CX_mixed CU_gpk Tryd.func24 rfl 22 0 rfl rfl rfl rfl ?_
  refine go_ ?_
  refine c_loop (fun k q m h => ∃ j : Nat, j ≤ s.size ∧ (∀ i, i < j → digitE (s.data.getD i 0) = true) ∧ k = s.size - j ∧ q = [.v (.string s), .v (.func (.func 48) #[] #[]), .top, .top, .top, .v (.int .i64 (j : Int))] ++ List.replicate 16 .top ∧ m = 1 ∧ h = [])
    ⟨_, _, _, _, ?_, ?_, ⟨0, Nat.zero_le _, fun i hi => by omega, rfl, rfl, rfl, rfl⟩⟩ ?_
  · rfl
  · skip
    exact sub_
  rintro k q m h hlen ⟨j, hj, hn, rfl, rfl, rfl, rfl⟩
  clear hlen
  have hlen : s.data.toList.length = s.size := Array.length_toList
  have fin : (∀ (hj : j < s.data.toList.length), digitE s.data.toList[j] = false) → frN digitE s = j := fun h => tw_len _ j (by omega) (fun i hi hij => by rw [ba_get hi]; exact hn i hij) h
  by_cases hjl : j < s.size
  · have g1 : decide ((j : Int) < ((s.size : Nat) : Int)) = true := decide_eq_true (by omega)
    have hw2 : IntKind.i64.wrap ((j : Int) + 1) = ((j + 1 : Nat) : Int) := by rw [wrap64 (by omega) (by omega)]; omega
    by_cases hp : digitE (s.data.getD j 0) = true
    · have g2 : (bif decide ((j : Int) < ((s.size : Nat) : Int)) then digitE (s.data.getD j 0) else false) = true := by rw [g1, hp]; rfl
      refine go_ ?_
      with_reducible apply run_y
      exact want_
      · intro K hK
        refine ev_ ?_
        refine ⟨j, _, rfl, ba_at hjl, ?_⟩
        refine ev_ ?_
        exact hK
      refine go_ ?_
      with_reducible apply run_y
      exact want_
      · intro K hK
        refine ev_ ?_
        refine vcCall_plain (s_digit (s.data.getD j 0)) (by kernel_rfl) ?_
        refine ev_ ?_
        exact hK
      refine go_ ?_
      rw [hw2]
      refine c_round ⟨_, _, _, _, ?_, ?_, ?_, ⟨j + 1, by omega, fun i hi => ?_, rfl, rfl, rfl, rfl⟩⟩
      · omega
      · rfl
      · skip
        exact sub_
      · by_cases h : i = j
        · subst h; exact hp
        · exact hn i (by omega)
    · have hp : digitE (s.data.getD j 0) = false := by simpa using hp
      have g2 : (bif decide ((j : Int) < ((s.size : Nat) : Int)) then digitE (s.data.getD j 0) else false) = false := by rw [g1, hp]; rfl
      have hf := fin (fun h => by rw [ba_get h]; exact hp)
      rw [hf]
      refine go_ ?_
      with_reducible apply run_y
      exact want_
      · intro K hK
        refine ev_ ?_
        refine ⟨j, _, rfl, ba_at hjl, ?_⟩
        refine ev_ ?_
        exact hK
      refine go_ ?_
      with_reducible apply run_y
      exact want_
      · intro K hK
        refine ev_ ?_
        refine vcCall_plain (s_digit (s.data.getD j 0)) (by kernel_rfl) ?_
        refine ev_ ?_
        exact hK
      refine go_ ?_
      with_reducible apply run_y
      exact want_
      · intro K hK
        refine ev_ ?_
        refine ⟨0, j, s.extract 0 j, rfl, rfl, Nat.zero_le _, by omega, rfl, rfl, ?_⟩
        refine ev_ ?_
        exact hK
      refine go_ ?_
      refine ev_ ?_
      exact .mk (by rfl) trivial
  · have g1 : decide ((j : Int) < ((s.size : Nat) : Int)) = false := decide_eq_false (by omega)
    have hf := fin (fun h => by omega)
    rw [hf]
    refine go_ ?_
    with_reducible apply run_y
    exact want_
    · intro K hK
      refine ev_ ?_
      refine ⟨0, j, s.extract 0 j, rfl, rfl, Nat.zero_le _, by omega, rfl, rfl, ?_⟩
      refine ev_ ?_
      exact hK
    refine go_ ?_
    refine ev_ ?_
    exact .mk (by rfl) trivial
set_option maxHeartbeats 4000000 in
set_option maxRecDepth 100000 in
theorem s_frontN (s : ByteArray) (hsz : s.size ≤ 1000000000) : Spec (Ctx.mk Tryd.prog globU 7 LaidU) 24 [.v (.string s), .v (.func (.func 53) #[] #[])] [] (.v (.string (s.extract 0 (frN inE s)))) [] := by
  refine spec_of_bodyL CX_mixed CU_gpk Tryd.func24 rfl 22 0 rfl rfl rfl rfl ?_
  refine go_ ?_
  refine c_loop (fun k q m h => ∃ j : Nat, j ≤ s.size ∧ (∀ i, i < j → inE (s.data.getD i 0) = true) ∧ k = s.size - j ∧ q = [.v (.string s), .v (.func (.func 53) #[] #[]), .top, .top, .top, .v (.int .i64 (j : Int))] ++ List.replicate 16 .top ∧ m = 1 ∧ h = [])
    ⟨_, _, _, _, ?_, ?_, ⟨0, Nat.zero_le _, fun i hi => by omega, rfl, rfl, rfl, rfl⟩⟩ ?_
  · rfl
  · skip
    exact sub_
  rintro k q m h hlen ⟨j, hj, hn, rfl, rfl, rfl, rfl⟩
  clear hlen
  have hlen : s.data.toList.length = s.size := Array.length_toList
  have fin : (∀ (hj : j < s.data.toList.length), inE s.data.toList[j] = false) → frN inE s = j := fun h => tw_len _ j (by omega) (fun i hi hij => by rw [ba_get hi]; exact hn i hij) h
  by_cases hjl : j < s.size
  · have g1 : decide ((j : Int) < ((s.size : Nat) : Int)) = true := decide_eq_true (by omega)
    have hw2 : IntKind.i64.wrap ((j : Int) + 1) = ((j + 1 : Nat) : Int) := by rw [wrap64 (by omega) (by omega)]; omega
    by_cases hp : inE (s.data.getD j 0) = true
    · have g2 : (bif decide ((j : Int) < ((s.size : Nat) : Int)) then inE (s.data.getD j 0) else false) = true := by rw [g1, hp]; rfl
      refine go_ ?_
      with_reducible apply run_y
      exact want_
      · intro K hK
        refine ev_ ?_
        refine ⟨j, _, rfl, ba_at hjl, ?_⟩
        refine ev_ ?_
        exact hK
      refine go_ ?_
      with_reducible apply run_y
      exact want_
      · intro K hK
        refine ev_ ?_
        refine vcCall_plain (s_inName (s.data.getD j 0)) (by kernel_rfl) ?_
        refine ev_ ?_
        exact hK
      refine go_ ?_
      rw [hw2]
      refine c_round ⟨_, _, _, _, ?_, ?_, ?_, ⟨j + 1, by omega, fun i hi => ?_, rfl, rfl, rfl, rfl⟩⟩
      · omega
      · rfl
      · skip
        exact sub_
      · by_cases h : i = j
        · subst h; exact hp
        · exact hn i (by omega)
    · have hp : inE (s.data.getD j 0) = false := by simpa using hp
      have g2 : (bif decide ((j : Int) < ((s.size : Nat) : Int)) then inE (s.data.getD j 0) else false) = false := by rw [g1, hp]; rfl
      have hf := fin (fun h => by rw [ba_get h]; exact hp)
      rw [hf]
      refine go_ ?_
      with_reducible apply run_y
      exact want_
      · intro K hK
        refine ev_ ?_
        refine ⟨j, _, rfl, ba_at hjl, ?_⟩
        refine ev_ ?_
        exact hK
      refine go_ ?_
      with_reducible apply run_y
      exact want_
      · intro K hK
        refine ev_ ?_
        refine vcCall_plain (s_inName (s.data.getD j 0)) (by kernel_rfl) ?_
        refine ev_ ?_
        exact hK
      refine go_ ?_
      with_reducible apply run_y
      exact want_
      · intro K hK
        refine ev_ ?_
        refine ⟨0, j, s.extract 0 j, rfl, rfl, Nat.zero_le _, by omega, rfl, rfl, ?_⟩
        refine ev_ ?_
        exact hK
      refine go_ ?_
      refine ev_ ?_
      exact .mk (by rfl) trivial
  · have g1 : decide ((j : Int) < ((s.size : Nat) : Int)) = false := decide_eq_false (by omega)
    have hf := fin (fun h => by omega)
    rw [hf]
    refine go_ ?_
    with_reducible apply run_y
    exact want_
    · intro K hK
      refine ev_ ?_
      refine ⟨0, j, s.extract 0 j, rfl, rfl, Nat.zero_le _, by omega, rfl, rfl, ?_⟩
      refine ev_ ?_
      exact hK
    refine go_ ?_
    refine ev_ ?_
    exact .mk (by rfl) trivial
set_option maxHeartbeats 4000000 in
set_option maxRecDepth 100000 in
theorem s_frontC (s : ByteArray) (hsz : s.size ≤ 1000000000) : Spec (Ctx.mk Tryd.prog globU 7 LaidU) 24 [.v (.string s), .v (.func (.func 25) #[] #[])] [] (.v (.string (s.extract 0 (frN notNl s)))) [] := by
  refine spec_of_bodyL CX_mixed CU_gpk Tryd.func24 rfl 22 0 rfl rfl rfl rfl ?_
  refine go_ ?_
  refine c_loop (fun k q m h => ∃ j : Nat, j ≤ s.size ∧ (∀ i, i < j → notNl (s.data.getD i 0) = true) ∧ k = s.size - j ∧ q = [.v (.string s), .v (.func (.func 25) #[] #[]), .top, .top, .top, .v (.int .i64 (j : Int))] ++ List.replicate 16 .top ∧ m = 1 ∧ h = [])
    ⟨_, _, _, _, ?_, ?_, ⟨0, Nat.zero_le _, fun i hi => by omega, rfl, rfl, rfl, rfl⟩⟩ ?_
  · rfl
  · skip
    exact sub_
  rintro k q m h hlen ⟨j, hj, hn, rfl, rfl, rfl, rfl⟩
  clear hlen
  have hlen : s.data.toList.length = s.size := Array.length_toList
  have fin : (∀ (hj : j < s.data.toList.length), notNl s.data.toList[j] = false) → frN notNl s = j := fun h => tw_len _ j (by omega) (fun i hi hij => by rw [ba_get hi]; exact hn i hij) h
  by_cases hjl : j < s.size
  · have g1 : decide ((j : Int) < ((s.size : Nat) : Int)) = true := decide_eq_true (by omega)
    have hw2 : IntKind.i64.wrap ((j : Int) + 1) = ((j + 1 : Nat) : Int) := by rw [wrap64 (by omega) (by omega)]; omega
    by_cases hp : notNl (s.data.getD j 0) = true
    · have g2 : (bif decide ((j : Int) < ((s.size : Nat) : Int)) then notNl (s.data.getD j 0) else false) = true := by rw [g1, hp]; rfl
      refine go_ ?_
      with_reducible apply run_y
      exact want_
      · intro K hK
        refine ev_ ?_
        refine ⟨j, _, rfl, ba_at hjl, ?_⟩
        refine ev_ ?_
        exact hK
      refine go_ ?_
      with_reducible apply run_y
      exact want_
      · intro K hK
        refine ev_ ?_
        refine vcCall_plain (s_notNl (s.data.getD j 0)) (by kernel_rfl) ?_
        refine ev_ ?_
        exact hK
      refine go_ ?_
      rw [hw2]
      refine c_round ⟨_, _, _, _, ?_, ?_, ?_, ⟨j + 1, by omega, fun i hi => ?_, rfl, rfl, rfl, rfl⟩⟩
      · omega
      · rfl
      · skip
        exact sub_
      · by_cases h : i = j
        · subst h; exact hp
        · exact hn i (by omega)
    · have hp : notNl (s.data.getD j 0) = false := by simpa using hp
      have g2 : (bif decide ((j : Int) < ((s.size : Nat) : Int)) then notNl (s.data.getD j 0) else false) = false := by rw [g1, hp]; rfl
      have hf := fin (fun h => by rw [ba_get h]; exact hp)
      rw [hf]
      refine go_ ?_
      with_reducible apply run_y
      exact want_
      · intro K hK
        refine ev_ ?_
        refine ⟨j, _, rfl, ba_at hjl, ?_⟩
        refine ev_ ?_
        exact hK
      refine go_ ?_
      with_reducible apply run_y
      exact want_
      · intro K hK
        refine ev_ ?_
        refine vcCall_plain (s_notNl (s.data.getD j 0)) (by kernel_rfl) ?_
        refine ev_ ?_
        exact hK
      refine go_ ?_
      with_reducible apply run_y
      exact want_
      · intro K hK
        refine ev_ ?_
        refine ⟨0, j, s.extract 0 j, rfl, rfl, Nat.zero_le _, by omega, rfl, rfl, ?_⟩
        refine ev_ ?_
        exact hK
      refine go_ ?_
      refine ev_ ?_
      exact .mk (by rfl) trivial
  · have g1 : decide ((j : Int) < ((s.size : Nat) : Int)) = false := decide_eq_false (by omega)
    have hf := fin (fun h => by omega)
    rw [hf]
    refine go_ ?_
    with_reducible apply run_y
    exact want_
    · intro K hK
      refine ev_ ?_
      refine ⟨0, j, s.extract 0 j, rfl, rfl, Nat.zero_le _, by omega, rfl, rfl, ?_⟩
      refine ev_ ?_
      exact hK
    refine go_ ?_
    refine ev_ ?_
    exact .mk (by rfl) trivial
end Go.Proofs.YtddggjmfplohkaaDoor

/- The lexer's functions of words and prefixes, walked. -/
namespace Go.Proofs.YtddggjmfplohkaaDoor
open Go Go.RowKit
theorem words_at : ∀ j, j < 10 → ∃ r, wordsP.drop j = .v (.string (wordsL.getD j ByteArray.empty)) :: r := by
  intro j hj
  match j, hj with
  | 0, _ => exact ⟨_, rfl⟩
  | 1, _ => exact ⟨_, rfl⟩
  | 2, _ => exact ⟨_, rfl⟩
  | 3, _ => exact ⟨_, rfl⟩
  | 4, _ => exact ⟨_, rfl⟩
  | 5, _ => exact ⟨_, rfl⟩
  | 6, _ => exact ⟨_, rfl⟩
  | 7, _ => exact ⟨_, rfl⟩
  | 8, _ => exact ⟨_, rfl⟩
  | 9, _ => exact ⟨_, rfl⟩
set_option maxHeartbeats 4000000 in
set_option maxRecDepth 100000 in
theorem s_isWord (s : ByteArray) : Spec (Ctx.mk Tryd.prog globU 7 LaidU) 70 [.v (.string s)] [] (.v (.bool (hasB s wordsL))) [] := by
  refine spec_of_bodyL CX_mixed CU_gpk Tryd.func70 rfl 13 0 rfl rfl rfl rfl ?_
  refine go_ ?_
  refine c_loop (fun k q m h => ∃ j : Nat, j ≤ 10 ∧ (∀ i, i < j → wordsL.getD i ByteArray.empty ≠ s) ∧ k = 10 - j ∧ q = [.v (.string s), .top, .top, .top, .v (.int .i64 (j : Int))] ++ List.replicate 8 .top ∧ m = 1 ∧ h = [])
    ⟨_, _, _, _, ?_, ?_, ⟨0, Nat.zero_le _, fun i hi => by omega, rfl, rfl, rfl, rfl⟩⟩ ?_
  · rfl
  · skip
    exact sub_
  rintro k q m h hlen ⟨j, hj, hn, rfl, rfl, rfl, rfl⟩
  clear hlen
  by_cases hj' : j < 10
  · have g1 : decide ((j : Int) < 10) = true := decide_eq_true (by omega)
    have hw2 : IntKind.i64.wrap ((j : Int) + 1) = ((j + 1 : Nat) : Int) := by rw [wrap64 (by omega) (by omega)]; omega
    obtain ⟨r, hat⟩ := words_at j hj'
    have hwl : j < wordsL.length := hj'
    by_cases he : wordsL.getD j ByteArray.empty = s
    · have g2 : decide (wordsL.getD j ByteArray.empty = s) = true := decide_eq_true he
      have hm : s ∈ wordsL := by
        rw [← he, show wordsL.getD j ByteArray.empty = wordsL[j] by simp [List.getD, hwl]]
        exact List.getElem_mem hwl
      refine go_ ?_
      with_reducible apply run_y
      exact want_
      · intro K hK
        refine ev_ ?_
        refine ⟨j, rfl, hj', ?_⟩
        refine ev_ ?_
        exact hK
      conv =>
        pattern (occs := *) (List.drop (j * _) wordsP)
        all_goals change List.drop (j * 1) wordsP
      rw [Nat.mul_one, hat]
      refine go_ ?_
      refine ev_ ?_
      exact .mk (vb_eq (by rw [hasB_t hm])) trivial
    · have g2 : decide (wordsL.getD j ByteArray.empty = s) = false := decide_eq_false he
      refine go_ ?_
      with_reducible apply run_y
      exact want_
      · intro K hK
        refine ev_ ?_
        refine ⟨j, rfl, hj', ?_⟩
        refine ev_ ?_
        exact hK
      conv =>
        pattern (occs := *) (List.drop (j * _) wordsP)
        all_goals change List.drop (j * 1) wordsP
      rw [Nat.mul_one, hat]
      refine go_ ?_
      rw [hw2]
      refine c_round ⟨_, _, _, _, ?_, ?_, ?_, ⟨j + 1, by omega, fun i hi => ?_, rfl, rfl, rfl, rfl⟩⟩
      · omega
      · rfl
      · skip
        exact sub_
      · by_cases h : i = j
        · subst h; exact he
        · exact hn i (by omega)
  · have g1 : decide ((j : Int) < 10) = false := decide_eq_false (by omega)
    have hm : s ∉ wordsL := fun hm => by
      obtain ⟨i, hi, e⟩ := List.getElem_of_mem hm
      have hi' : i < 10 := hi
      exact hn i (by omega) (by simp [List.getD, hi, e])
    refine go_ ?_
    refine ev_ ?_
    exact .mk (vb_eq (by rw [hasB_f hm])) trivial
/-- A token's value and how it went. -/
def tkR (t : Tk) (er : Int) : PV := .tup [.agg (tkC t), .v (.int .i64 er)]
def tk0 : Tk := ⟨0, ByteArray.empty, 0, 0⟩
/-- A name or a word; or it is too long. -/
noncomputable def nameOfE (s : ByteArray) : Tk × Int :=
  if s.size ≤ 20 then (if hasB s wordsL = true then (⟨3, s, 0, 0⟩, 0) else (⟨1, s, 0, 0⟩, 0)) else (tk0, 2)
set_option maxHeartbeats 4000000 in
set_option maxRecDepth 100000 in
theorem s_nameOf (s : ByteArray) : Spec (Ctx.mk Tryd.prog globU 7 LaidU) 52 [.v (.string s)] [] (tkR (nameOfE s).1 (nameOfE s).2) [] := by
  refine spec_of_bodyL CX_mixed CU_gpk Tryd.func52 rfl 14 0 rfl rfl rfl rfl ?_
  by_cases h1 : s.size ≤ 20
  · have g1 : decide (((s.size : Nat) : Int) > 20) = false := decide_eq_false (by omega)
    by_cases h2 : hasB s wordsL = true
    · have e : nameOfE s = (⟨3, s, 0, 0⟩, 0) := by unfold nameOfE; rw [if_pos h1, if_pos h2]
      rw [e]
      refine go_ ?_
      with_reducible apply run_y
      exact want_
      · intro K hK
        refine ev_ ?_
        refine vcCall_plain (s_isWord s) (by kernel_rfl) ?_
        refine ev_ ?_
        exact hK
      refine go_ ?_
      refine ev_ ?_
      exact .mk (by rfl) trivial
    · have e : nameOfE s = (⟨1, s, 0, 0⟩, 0) := by unfold nameOfE; rw [if_pos h1, if_neg h2]
      have h2 : hasB s wordsL = false := by simpa using h2
      rw [e]
      refine go_ ?_
      with_reducible apply run_y
      exact want_
      · intro K hK
        refine ev_ ?_
        refine vcCall_plain (s_isWord s) (by kernel_rfl) ?_
        refine ev_ ?_
        exact hK
      refine go_ ?_
      refine ev_ ?_
      exact .mk (by rfl) trivial
  · have g1 : decide (((s.size : Nat) : Int) > 20) = true := decide_eq_true (by omega)
    have e : nameOfE s = (tk0, 2) := by unfold nameOfE; rw [if_neg h1]
    rw [e]
    refine go_ ?_
    refine ev_ ?_
    exact .mk (by rfl) trivial
/-- Does a text begin with another one? -/
def hpE (s p : ByteArray) : Bool := decide (p.size ≤ s.size) && decide (s.extract 0 p.size = p)
set_option maxHeartbeats 4000000 in
set_option maxRecDepth 100000 in
theorem s_slHP (s p : ByteArray) : Spec (Ctx.mk Tryd.prog globU 7 LaidU) 47 [.v (.string s), .v (.string p)] [] (.v (.bool (hpE s p))) [] := by
  refine spec_of_bodyL CX_mixed CU_gpk Tryd.func47 rfl 18 0 rfl rfl rfl rfl ?_
  by_cases h : p.size ≤ s.size
  · have g1 : decide (((s.size : Nat) : Int) ≥ ((p.size : Nat) : Int)) = true := decide_eq_true (by omega)
    have e : hpE s p = decide (s.extract 0 p.size = p) := by unfold hpE; rw [decide_eq_true h]; rfl
    rw [e]
    refine go_ ?_
    with_reducible apply run_y
    exact want_
    · intro K hK
      refine ev_ ?_
      refine ⟨0, p.size, s.extract 0 p.size, rfl, rfl, Nat.zero_le _, h, rfl, rfl, ?_⟩
      refine ev_ ?_
      exact hK
    refine go_ ?_
    refine ev_ ?_
    exact .mk (vb_eq (by (rw [g1]; rfl))) trivial
  · have g1 : decide (((s.size : Nat) : Int) ≥ ((p.size : Nat) : Int)) = false := decide_eq_false (by omega)
    have e : hpE s p = false := by unfold hpE; rw [decide_eq_false h]; rfl
    rw [e]
    refine go_ ?_
    refine ev_ ?_
    exact .mk (vb_eq (by rfl)) trivial
set_option maxRecDepth 100000 in
theorem s_HP (s p : ByteArray) : Spec (Ctx.mk Tryd.prog globU 7 LaidU) 23 [.v (.string s), .v (.string p)] [] (.v (.bool (hpE s p))) [] := by
  refine spec_of_bodyL CX_mixed CU_gpk Tryd.func23 rfl 8 0 rfl rfl rfl rfl ?_
  refine go_ ?_
  with_reducible apply run_y
  exact want_
  · intro K hK
    refine ev_ ?_
    refine vcCall_plain (s_slHP s p) (by kernel_rfl) ?_
    refine ev_ ?_
    exact hK
  refine go_ ?_
  refine ev_ ?_
  exact .mk (by rfl) trivial
end Go.Proofs.YtddggjmfplohkaaDoor
