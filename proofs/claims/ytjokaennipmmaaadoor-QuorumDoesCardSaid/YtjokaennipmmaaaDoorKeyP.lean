import Derived.Test.YtjokaennipmmaaaDoorKeyA
/- Trees of one-time keys as plain functions: their keys, signatures and checks; two ways up to one root. -/
namespace Go.Proofs.YtjokaennipmmaaaDoor
open Go.RowKit
def kseedB (seed : D) (i : Nat) : List UInt8 := 107 :: (bytesE seed.1 ++ bytesE [UInt32.ofNat i])
def kseedE (seed : D) (i : Nat) : D := digE ⟨(kseedB seed i).toArray⟩
theorem kseedB_len (seed : D) (i : Nat) : (kseedB seed i).length = 21 := by
  unfold kseedB
  rw [List.length_cons, List.length_append, bytesE_length, bytesE_length, seed.2]
  rfl
def keysE (seed : D) (n : Nat) : List D := (List.range n).map fun i => publicE (kseedE seed i)
theorem keysE_len (seed : D) (n : Nat) : (keysE seed n).length = n := by simp [keysE]
theorem keysE_succ (seed : D) (n : Nat) : keysE seed (n + 1) = keysE seed n ++ [publicE (kseedE seed n)] := by simp [keysE, List.range_succ]
theorem keysE_at (seed : D) {n i : Nat} (h : i < n) : (keysE seed n).getD i D.zero = publicE (kseedE seed i) := by simp [keysE, List.getD, h]
/-- A signature: the number of the key, its values, the way. -/
abbrev Sg := Int × List D × List D
def sgP (s : Sg) : List PV := [.v (.int .i64 s.1), .sl .any (dsP s.2.1), .sl .any (dsP s.2.2)]
def kcheckE (pub msg : D) (s : Sg) : Bool := decide (s.2.2.length ≤ 4) && ((reachP msg s.2.1).2 && checkE pub ((2 ^ s.2.2.length : Nat) : Int) s.1 (reachP msg s.2.1).1 s.2.2)
def ksignE (seed : D) (h i : Nat) (msg : D) : Sg := ((i : Int), signE (kseedE seed i) msg, wayE noneE (keysE seed (2 ^ h)) i)
def kpubE (seed : D) (h : Nat) : D := rootE noneE (keysE seed (2 ^ h))
def zeroSg : Sg := (0, [], [])
def ksignI (seed : D) (height index : Int) (msg : D) : Sg × Int :=
  if 0 ≤ height ∧ height ≤ 4 then (if 0 ≤ index ∧ index < ((2 ^ height.toNat : Nat) : Int) then (ksignE seed height.toNat index.toNat msg, 0) else (zeroSg, 1)) else (zeroSg, 2)
def kpubI (seed : D) (height : Int) : D × Int := if 0 ≤ height ∧ height ≤ 4 then (kpubE seed height.toNat, 0) else (D.zero, 2)
theorem reachP_sign (seed msg : D) : reachP msg (signE seed msg) = (publicE seed, true) := by
  unfold reachP
  rw [if_pos (signE_length seed msg), reach_sign]
theorem halfE_pow (h : Nat) : halfE (2 ^ (h + 1)) = 2 ^ h := halfE_stop (Nat.pow_lt_pow_right (by omega) (by omega)) (by rw [Nat.pow_succ]; omega)
theorem depE_pow (h : Nat) : ∀ i, i < 2 ^ h → depE (2 ^ h) i = h := by
  induction h with
  | zero => intro i _; exact depE_one i (by decide)
  | succ h ih =>
    intro i hi
    have h2 : 2 ≤ 2 ^ (h + 1) := by rw [Nat.pow_succ]; have := Nat.two_pow_pos h; omega
    by_cases hk : i < 2 ^ h
    · rw [depE_left h2 (by rw [halfE_pow]; exact hk), halfE_pow, ih i hk]
    · rw [depE_right h2 (by rw [halfE_pow]; exact hk), halfE_pow]
      have e : 2 ^ (h + 1) - 2 ^ h = 2 ^ h := by rw [Nat.pow_succ]; omega
      rw [e, ih (i - 2 ^ h) (by rw [Nat.pow_succ] at hi; omega)]
theorem way_pow (seed : D) {h i : Nat} (hi : i < 2 ^ h) : (wayE noneE (keysE seed (2 ^ h)) i).length = h := by
  rw [way_dep noneE (2 ^ h) _ i (keysE_len seed _), depE_pow h i hi]
theorem pow4 {h : Nat} (hh : h ≤ 4) : 2 ^ h ≤ 16 := by
  have : h = 0 ∨ h = 1 ∨ h = 2 ∨ h = 3 ∨ h = 4 := by omega
  rcases this with rfl | rfl | rfl | rfl | rfl <;> decide
/-- What is signed holds. -/
theorem kcheck_sign (seed msg : D) {h i : Nat} (hh : h ≤ 4) (hi : i < 2 ^ h) : kcheckE (kpubE seed h) msg (ksignE seed h i msg) = true := by
  unfold kcheckE ksignE
  have hp := pow4 hh
  simp only [reachP_sign, way_pow seed hi, Bool.true_and, decide_eq_true hh]
  rw [checkE_in (by omega) hi, ← mcheck_rcheck, ← keysE_at seed hi]
  have := mcheck_way noneE (keysE seed (2 ^ h)) i (by rw [keysE_len]; exact hi)
  rw [keysE_len] at this
  exact this
/-- The way up from a place, step by step from below. -/
def riseE : Nat → D → List D → D
  | _, a, [] => a
  | i, a, x :: p => riseE (i / 2) (if i % 2 = 1 then pairE x a else pairE a x) p
theorem riseE_app (x : D) : ∀ (p : List D) (i : Nat) (a : D), riseE i a (p ++ [x]) = if i / 2 ^ p.length % 2 = 1 then pairE x (riseE i a p) else pairE (riseE i a p) x
  | [], i, a => by simp [riseE]
  | y :: p, i, a => by
    simp only [List.cons_append, riseE]
    rw [riseE_app x p, List.length_cons, Nat.pow_succ, Nat.mul_comm (2 ^ p.length) 2, ← Nat.div_div_eq_div_mul]
theorem riseE_sub : ∀ (p : List D) (i k : Nat) (a : D), riseE (i + 2 ^ p.length * k) a p = riseE i a p
  | [], i, k, a => rfl
  | y :: p, i, k, a => by
    simp only [riseE, List.length_cons]
    have e1 : (i + 2 ^ (p.length + 1) * k) % 2 = i % 2 := by
      rw [Nat.pow_succ, Nat.mul_comm (2 ^ p.length) 2, Nat.mul_assoc]; omega
    have e2 : (i + 2 ^ (p.length + 1) * k) / 2 = i / 2 + 2 ^ p.length * k := by
      rw [Nat.pow_succ, Nat.mul_comm (2 ^ p.length) 2, Nat.mul_assoc]; omega
    simp only [e1, e2]
    exact riseE_sub p _ _ _
theorem list_last {p : List D} (h : p ≠ []) : p = p.dropLast ++ [p.getLastD D.zero] := by
  rw [List.getLastD_eq_getLast?, List.getLast?_eq_some_getLast h]
  exact (List.dropLast_concat_getLast h).symm
theorem up_pow (h : Nat) : ∀ (i : Nat) (a : D) (p : List D), i < 2 ^ h → p.length = h → upE (2 ^ h) i a p = (riseE i a p, true) := by
  induction h with
  | zero =>
    intro i a p _ hp
    have : p = [] := List.eq_nil_of_length_eq_zero hp
    subst this
    rw [upE_one i a [] (by decide)]
    rfl
  | succ h ih =>
    intro i a p hi hp
    have h2 : 2 ≤ 2 ^ (h + 1) := by rw [Nat.pow_succ]; have := Nat.two_pow_pos h; omega
    have hne : p ≠ [] := by rintro rfl; simp at hp
    have hd : p.dropLast.length = h := by rw [List.length_dropLast]; omega
    have hl := list_last hne
    by_cases hk : i < 2 ^ h
    · rw [upE_left a h2 hne (by rw [halfE_pow]; exact hk), halfE_pow, ih i a p.dropLast hk hd]
      conv => rhs; rw [hl]
      rw [riseE_app, hd, Nat.div_eq_of_lt hk, if_neg (by decide)]
    · rw [upE_right a h2 hne (by rw [halfE_pow]; exact hk), halfE_pow]
      have e : 2 ^ (h + 1) - 2 ^ h = 2 ^ h := by rw [Nat.pow_succ]; omega
      have hi' : i - 2 ^ h < 2 ^ h := by rw [Nat.pow_succ] at hi; omega
      rw [e, ih (i - 2 ^ h) a p.dropLast hi' hd]
      conv => rhs; rw [hl]
      have e1 : i / 2 ^ h = 1 := by
        rw [Nat.div_eq_iff (Nat.two_pow_pos h)]
        rw [Nat.pow_succ] at hi; omega
      rw [riseE_app, hd, e1, if_pos (by decide)]
      have e3 := riseE_sub p.dropLast (i - 2 ^ h) 1 a
      rw [hd, Nat.mul_one, Nat.sub_add_cancel (by omega)] at e3
      rw [e3]
/-- Do two ways up meet in two unlike pairs with one digest? -/
def clashK : Nat → D → List D → D → List D → Bool
  | i, a, x :: p, b, y :: q =>
    if (if i % 2 = 1 then (x, a) else (a, x)) ≠ (if i % 2 = 1 then (y, b) else (b, y)) ∧ (if i % 2 = 1 then pairE x a else pairE a x) = (if i % 2 = 1 then pairE y b else pairE b y) then true
    else clashK (i / 2) (if i % 2 = 1 then pairE x a else pairE a x) p (if i % 2 = 1 then pairE y b else pairE b y) q
  | _, _, _, _, _ => false
theorem clashK_meet : ∀ (p q : List D) (i : Nat) (a b : D), p.length = q.length → a ≠ b → riseE i a p = riseE i b q → clashK i a p b q = true
  | [], [], i, a, b, _, hne, h => absurd h hne
  | [], _ :: _, _, _, _, hl, _, _ => by simp at hl
  | _ :: _, [], _, _, _, hl, _, _ => by simp at hl
  | x :: p, y :: q, i, a, b, hl, hne, h => by
    unfold clashK
    simp only [riseE] at h
    have hx : (if i % 2 = 1 then (x, a) else (a, x)) ≠ (if i % 2 = 1 then (y, b) else (b, y)) := by
      split
      · intro e; exact hne (congrArg Prod.snd e)
      · intro e; exact hne (congrArg Prod.fst e)
    by_cases he : (if i % 2 = 1 then pairE x a else pairE a x) = (if i % 2 = 1 then pairE y b else pairE b y)
    · rw [if_pos ⟨hx, he⟩]
    · rw [if_neg (fun h => he h.2)]
      exact clashK_meet p q (i / 2) _ _ (by simpa using hl) he h
/-- What holds leads up to the public key. -/
theorem kcheck_rise {pub msg : D} {s : Sg} (h : kcheckE pub msg s = true) : ∃ i : Nat, s.1 = (i : Int) ∧ (reachP msg s.2.1).2 = true ∧ riseE i (reachP msg s.2.1).1 s.2.2 = pub ∧ s.2.2.length ≤ 4 ∧ i < 2 ^ s.2.2.length := by
  unfold kcheckE at h
  simp only [Bool.and_eq_true, decide_eq_true_eq] at h
  obtain ⟨h1, h2, h3⟩ := h
  have hp := pow4 h1
  by_cases hin : ((2 ^ s.2.2.length : Nat) : Int) > 1000 ∨ s.1 < 0 ∨ s.1 ≥ ((2 ^ s.2.2.length : Nat) : Int)
  · rw [checkE_no hin] at h3; cases h3
  · obtain ⟨i, hi⟩ := Int.eq_ofNat_of_zero_le (show 0 ≤ s.1 by omega)
    rw [hi, checkE_in (by omega) (by omega)] at h3
    unfold rcheckE at h3
    rw [up_pow s.2.2.length i _ _ (by omega) rfl] at h3
    exact ⟨i, hi, h2, by simpa using h3, h1, by omega⟩
/-- Two that hold at one place, by paths of one length, are of one key, or a clash is shown. -/
theorem kcheck_clash {pub m n : D} {s t : Sg} (hs : kcheckE pub m s = true) (ht : kcheckE pub n t = true) (hi : s.1 = t.1) (hl : s.2.2.length = t.2.2.length) :
    (reachP m s.2.1).1 = (reachP n t.2.1).1 ∨ clashK s.1.toNat (reachP m s.2.1).1 s.2.2 (reachP n t.2.1).1 t.2.2 = true := by
  obtain ⟨i, e1, _, e2, _⟩ := kcheck_rise hs
  obtain ⟨k, f1, _, f2, _⟩ := kcheck_rise ht
  have : i = k := by omega
  subst this
  by_cases he : (reachP m s.2.1).1 = (reachP n t.2.1).1
  · exact .inl he
  · refine .inr ?_
    rw [e1, Int.toNat_natCast]
    exact clashK_meet _ _ _ _ _ hl he (by rw [e2, f2])
end Go.Proofs.YtjokaennipmmaaaDoor
