/- One-time signatures as plain functions; no program is named here. -/
import Derived.Test.YtjokaennipmmaaaDoorB1
namespace Go.Proofs.YtjokaennipmmaaaDoor
open Go.RowKit
def oneE : D := ⟨[0, 0, 0, 1], rfl⟩
def walkE (x : D) : Nat → D
  | 0 => x
  | n + 1 => pairE (walkE x n) oneE
def beginE (seed : D) (i : Nat) : D := pairE seed ⟨[UInt32.ofNat i, 0, 0, 0], rfl⟩
def keyE : D := ⟨[35, 0, 0, 0], rfl⟩
def ofTo (f : Nat → D) : Nat → D
  | 0 => keyE
  | k + 1 => pairE (ofTo f k) (f k)
def digN (w : UInt32) (k : Nat) : Nat := w.toNat / 16 ^ (7 - k) % 16
/-- The first q digits of a message, four words of eight digits each. -/
def digsTo (msg : D) : Nat → List Nat
  | 0 => []
  | q + 1 => digsTo msg q ++ [digN (msg.1.getD (q / 8) 0) (q % 8)]
def sumTo (msg : D) : Nat → Nat
  | 0 => 0
  | q + 1 => sumTo msg q + (15 - digN (msg.1.getD (q / 8) 0) (q % 8))
theorem digN_lt (w : UInt32) (k : Nat) : digN w k < 16 := Nat.mod_lt _ (by omega)
theorem digsTo_length (msg : D) (q : Nat) : (digsTo msg q).length = q := by
  induction q with
  | zero => rfl
  | succ q ih => simp [digsTo, ih]
theorem sumTo_le (msg : D) (q : Nat) : sumTo msg q ≤ 15 * q := by
  induction q with
  | zero => simp [sumTo]
  | succ q ih => simp only [sumTo]; omega
def stepsE (msg : D) : List Nat := digsTo msg 32 ++ [sumTo msg 32 / 256 % 16, sumTo msg 32 / 16 % 16, sumTo msg 32 % 16]
theorem stepsE_length (msg : D) : (stepsE msg).length = 35 := by simp [stepsE, digsTo_length]
theorem digsTo_lt (msg : D) (q : Nat) : ∀ n ∈ digsTo msg q, n < 16 := by
  induction q with
  | zero => simp [digsTo]
  | succ q ih =>
    intro n hn
    simp only [digsTo, List.mem_append, List.mem_singleton] at hn
    rcases hn with hn | rfl
    · exact ih n hn
    · exact digN_lt _ _
theorem stepsE_lt (msg : D) : ∀ n ∈ stepsE msg, n < 16 := by
  intro n hn
  simp only [stepsE, List.mem_append] at hn
  rcases hn with hn | hn
  · exact digsTo_lt msg 32 n hn
  · simp at hn; omega
theorem stepsE_getD_lt (msg : D) (i : Nat) : (stepsE msg).getD i 0 < 16 := by
  rcases Nat.lt_or_ge i (stepsE msg).length with h | h
  · rw [List.getD_eq_getElem?_getD, List.getElem?_eq_getElem h]; exact stepsE_lt msg _ (List.getElem_mem h)
  · rw [List.getD_eq_getElem?_getD, List.getElem?_eq_none h]; simp
def publicE (seed : D) : D := ofTo (fun i => walkE (beginE seed i) 15) 35
def signTo (seed msg : D) (n : Nat) : List D := (List.range n).map fun i => walkE (beginE seed i) ((stepsE msg).getD i 0)
def signE (seed msg : D) : List D := signTo seed msg 35
theorem signTo_succ (seed msg : D) (n : Nat) : signTo seed msg (n + 1) = signTo seed msg n ++ [walkE (beginE seed n) ((stepsE msg).getD n 0)] := by simp [signTo, List.range_succ]
def reachE (msg : D) (s : List D) : D := ofTo (fun i => walkE (s.getD i D.zero) (15 - (stepsE msg).getD i 0)) 35
def ockE (pub msg : D) (s : List D) : Bool := decide (s.length = 35) && decide (reachE msg s = pub)
/-- At chain i the other one shows what lies ahead. -/
def shows (msg : D) (s : List D) (other : D) (t : List D) (i : Nat) : Bool :=
  decide ((stepsE other).getD i 0 < (stepsE msg).getD i 0) && decide (walkE (t.getD i D.zero) ((stepsE msg).getD i 0 - (stepsE other).getD i 0) = s.getD i D.zero)
/-- The first of the places from k on, n of them, that satisfies p. -/
def firstFrom (p : Nat → Bool) : Nat → Nat → Option Nat
  | _, 0 => none
  | k, n + 1 => if p k then some k else firstFrom p (k + 1) n
def aheadE (msg : D) (s : List D) (other : D) (t : List D) : Nat × D × Bool :=
  if s.length = 35 ∧ t.length = 35 then
    match firstFrom (shows msg s other t) 0 35 with
    | some i => (i, t.getD i D.zero, true)
    | none => (0, D.zero, false)
  else (0, D.zero, false)
theorem walkE_zero (x : D) : walkE x 0 = x := rfl
theorem walkE_succ (x : D) (n : Nat) : walkE x (n + 1) = pairE (walkE x n) oneE := rfl
theorem ofTo_zero (f : Nat → D) : ofTo f 0 = keyE := rfl
theorem ofTo_succ (f : Nat → D) (n : Nat) : ofTo f (n + 1) = pairE (ofTo f n) (f n) := rfl
theorem walkE_add (x : D) (m n : Nat) : walkE (walkE x m) n = walkE x (m + n) := by
  induction n with
  | zero => rfl
  | succ n ih => rw [← Nat.add_assoc]; simp [walkE, ih]
theorem ofTo_congr (f g : Nat → D) (n : Nat) (h : ∀ i, i < n → f i = g i) : ofTo f n = ofTo g n := by
  induction n with
  | zero => rfl
  | succ n ih => simp only [ofTo]; rw [ih fun i hi => h i (by omega), h n (by omega)]
theorem signE_getD (seed msg : D) (i : Nat) (hi : i < 35) : (signE seed msg).getD i D.zero = walkE (beginE seed i) ((stepsE msg).getD i 0) := by
  simp [signE, signTo, List.getD, hi]
theorem signE_length (seed msg : D) : (signE seed msg).length = 35 := by simp [signE, signTo]
/-- A signature reaches its own key. -/
theorem reach_sign (seed msg : D) : reachE msg (signE seed msg) = publicE seed := by
  unfold reachE publicE
  apply ofTo_congr
  intro i hi
  have := stepsE_getD_lt msg i
  rw [signE_getD seed msg i hi, walkE_add, show (stepsE msg).getD i 0 + (15 - (stepsE msg).getD i 0) = 15 by omega]
theorem check_sign (seed msg : D) : ockE (publicE seed) msg (signE seed msg) = true := by
  simp [ockE, signE_length, reach_sign]
end Go.Proofs.YtjokaennipmmaaaDoor
