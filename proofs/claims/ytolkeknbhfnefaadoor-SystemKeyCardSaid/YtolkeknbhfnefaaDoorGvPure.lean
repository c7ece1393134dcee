/- Two signatures of unlike messages by one key give away a value that lies ahead; plain lists, no program. -/
import Derived.Test.YtolkeknbhfnefaaDoorUnPure
namespace Go.Proofs.YtolkeknbhfnefaaDoor
open Go.RowKit
theorem firstFrom_some (p : Nat → Bool) (n : Nat) : ∀ k j, k ≤ j → j < k + n → p j = true → ∃ i, k ≤ i ∧ i < k + n ∧ p i = true ∧ firstFrom p k n = some i := by
  induction n with
  | zero => intro k j h1 h2 _; omega
  | succ n ih =>
    intro k j h1 h2 hp
    by_cases hk : p k = true
    · exact ⟨k, Nat.le_refl _, by omega, hk, by simp [firstFrom, hk]⟩
    · have hne : j ≠ k := fun e => hk (e ▸ hp)
      obtain ⟨i, h3, h4, h5, h6⟩ := ih (k + 1) j (by omega) (by omega) hp
      exact ⟨i, by omega, by omega, h5, by simp [firstFrom, hk, h6]⟩
theorem shows_sign (seed m1 m2 : D) (i : Nat) (hi : i < 35) : shows m1 (signE seed m1) m2 (signE seed m2) i = decide ((stepsE m2).getD i 0 < (stepsE m1).getD i 0) := by
  unfold shows
  by_cases h : (stepsE m2).getD i 0 < (stepsE m1).getD i 0
  · rw [signE_getD seed m1 i hi, signE_getD seed m2 i hi, walkE_add, show (stepsE m2).getD i 0 + ((stepsE m1).getD i 0 - (stepsE m2).getD i 0) = (stepsE m1).getD i 0 by omega]
    rw [decide_eq_true (rfl : walkE (beginE seed i) ((stepsE m1).getD i 0) = _), Bool.and_true]
  · rw [decide_eq_false h, Bool.false_and]
theorem ahead_sign (seed m1 m2 : D) (h : m1 ≠ m2) : ∃ i, i < 35 ∧ aheadE m1 (signE seed m1) m2 (signE seed m2) = (i, (signE seed m2).getD i D.zero, true) ∧ (stepsE m2).getD i 0 < (stepsE m1).getD i 0 := by
  have hl := lessTo_eq m2 m1
  rw [decide_eq_false (fun e => h e.symm), Bool.not_false] at hl
  unfold lessTo at hl
  obtain ⟨j, hj, hd⟩ := List.any_eq_true.1 hl
  have hj' := List.mem_range.1 hj
  obtain ⟨i, _, h2, h3, h4⟩ := firstFrom_some (shows m1 (signE seed m1) m2 (signE seed m2)) 35 0 j (by omega) (by omega) (by rw [shows_sign seed m1 m2 j hj']; exact hd)
  refine ⟨i, by omega, ?_, ?_⟩
  · unfold aheadE
    rw [if_pos ⟨signE_length seed m1, signE_length seed m2⟩, h4]
  · rw [shows_sign seed m1 m2 i (by omega)] at h3
    exact of_decide_eq_true h3
theorem gives_reach (seed m1 m2 : D) (i : Nat) (hi : i < 35) (h : (stepsE m1).getD i 0 ≤ (stepsE m2).getD i 0) : walkE ((signE seed m1).getD i D.zero) ((stepsE m2).getD i 0 - (stepsE m1).getD i 0) = (signE seed m2).getD i D.zero := by
  rw [signE_getD seed m1 i hi, signE_getD seed m2 i hi, walkE_add, show (stepsE m1).getD i 0 + ((stepsE m2).getD i 0 - (stepsE m1).getD i 0) = (stepsE m2).getD i 0 by omega]
end Go.Proofs.YtolkeknbhfnefaaDoor
