import Derived.Test.YtddggjmfplohkaaDoorTo
/- Right expressions are told by their texts. -/
namespace Go.Proofs.YtddggjmfplohkaaDoor
open Go.RowKit
def lb (s : ByteArray) : List UInt8 := s.data.toList
theorem lb_app (a b : ByteArray) : lb (a ++ b) = lb a ++ lb b := by unfold lb; rw [ByteArray.data_append, Array.toList_append]
theorem lb_inj {a b : ByteArray} (h : lb a = lb b) : a = b := by
  obtain ⟨⟨x⟩⟩ := a
  obtain ⟨⟨y⟩⟩ := b
  have h : x = y := h
  rw [h]
theorem lb_nil : lb ByteArray.empty = [] := rfl
theorem lb_mk (x : Array UInt8) : lb ⟨x⟩ = x.toList := rfl
theorem lb_len (s : ByteArray) : (lb s).length = s.size := by unfold lb ByteArray.size; exact Array.length_toList
/-- The first byte isn't one of these. -/
def nof (P : UInt8 → Bool) : List UInt8 → Prop
  | [] => True
  | b :: _ => P b = false
theorem span_one {P : UInt8 → Bool} : ∀ {a b u v : List UInt8}, (∀ x ∈ a, P x = true) → (∀ x ∈ b, P x = true) → nof P u → nof P v → a ++ u = b ++ v → a = b ∧ u = v
  | [], [], _, _, _, _, _, _, h => ⟨rfl, h⟩
  | x :: a, [], u, v, ha, _, _, hv, h => by
    exfalso
    have h : x :: (a ++ u) = v := h
    subst h
    have h1 : P x = false := hv
    rw [ha x (by simp)] at h1
    cases h1
  | [], y :: b, u, v, _, hb, hu, _, h => by
    exfalso
    have h : u = y :: (b ++ v) := h
    subst h
    have h1 : P y = false := hu
    rw [hb y (by simp)] at h1
    cases h1
  | x :: a, y :: b, u, v, ha, hb, hu, hv, h => by
    simp only [List.cons_append, List.cons.injEq] at h
    obtain ⟨rfl, h⟩ := h
    obtain ⟨rfl, rfl⟩ := span_one (fun z hz => ha z (by simp [hz])) (fun z hz => hb z (by simp [hz])) hu hv h
    exact ⟨rfl, rfl⟩
/-- What a name is. -/
theorem isE_is {s : ByteArray} (h : isE s = true) : (∀ x ∈ lb s, inE x = true) ∧ s.size ≤ 20 ∧ s ∉ wordsL ∧ ∃ c t, lb s = c :: t ∧ letterE c = true := by
  unfold isE nmE at h
  simp only [Bool.and_eq_true, decide_eq_true_eq, Bool.not_eq_true', List.all_eq_true] at h
  obtain ⟨h0, ⟨⟨⟨h1, h2⟩, h3⟩, h4⟩, h5⟩ := h
  refine ⟨h5, h2, fun hm => ?_, ?_⟩
  · rw [hasB_t hm] at h0; cases h0
  · obtain ⟨⟨l⟩⟩ := s
    cases l with
    | nil => exact absurd rfl h1
    | cons c t => exact ⟨c, t, rfl, h3⟩
theorem letter_in {c : UInt8} (h : letterE c = true) : inE c = true ∧ digitE c = false := by
  unfold inE
  refine ⟨by rw [h]; rfl, ?_⟩
  unfold letterE at h
  unfold digitE
  simp only [Bool.or_eq_true, Bool.and_eq_true, decide_eq_true_eq] at h
  simp only [Bool.and_eq_false_iff, decide_eq_false_iff_not]
  omega
/-- Digits. -/
theorem dg_is {k : Nat} (h : k < 10) : (UInt8.ofNat (48 + k)).toNat = 48 + k := by
  rw [UInt8.toNat_ofNat']; omega
theorem dg_digit {k : Nat} (h : k < 10) : digitE (UInt8.ofNat (48 + k)) = true := by
  unfold digitE
  rw [dg_is h]
  simp only [Bool.and_eq_true, decide_eq_true_eq]
  omega
theorem dec_all (u : Nat) : ∀ x ∈ Lib.decDigits u, digitE x = true := by
  induction u using Nat.strongRecOn with
  | _ u ih =>
    intro x hx
    rw [Lib.decDigits] at hx
    split at hx
    · simp only [List.mem_singleton] at hx
      subst hx
      exact dg_digit (by omega)
    · rcases List.mem_append.1 hx with hx | hx
      · exact ih (u / 10) (by omega) x hx
      · simp only [List.mem_singleton] at hx
        subst hx
        exact dg_digit (by omega)
theorem dec_cons (u : Nat) : ∃ c t, Lib.decDigits u = c :: t ∧ digitE c = true := by
  cases h : Lib.decDigits u with
  | nil =>
    have := Lib.decDigits_length u
    rw [h] at this
    have := Lib.nDigits_pos u
    simp at *
    omega
  | cons c t => exact ⟨c, t, rfl, dec_all u c (by rw [h]; simp)⟩
def valL (l : List UInt8) : Nat := l.foldl (fun a x => a * 10 + (x.toNat - 48)) 0
theorem val_dec (u : Nat) : valL (Lib.decDigits u) = u := by
  induction u using Nat.strongRecOn with
  | _ u ih =>
    rw [Lib.decDigits]
    split
    · have : valL [UInt8.ofNat (48 + u)] = (UInt8.ofNat (48 + u)).toNat - 48 := by simp [valL]
      rw [this, dg_is (by omega)]
      omega
    · have h1 := ih (u / 10) (by omega)
      unfold valL at h1 ⊢
      rw [List.foldl_append, h1]
      simp only [List.foldl_cons, List.foldl_nil]
      rw [dg_is (by omega)]
      omega
theorem dec_inj {u v : Nat} (h : Lib.decDigits u = Lib.decDigits v) : u = v := by rw [← val_dec u, ← val_dec v, h]
theorem digit_in {c : UInt8} (h : digitE c = true) : inE c = true := by unfold inE; rw [h]; simp
theorem lb_dec (u : Nat) : lb (decE u) = Lib.decDigits u := rfl
/-- What may stand behind an expression. -/
def fol : List UInt8 → Prop
  | [] => False
  | b :: _ => b = 93 ∨ b = 41 ∨ b = 44 ∨ b = 32 ∨ b = 59
theorem fol_93 (u : List UInt8) : fol (93 :: u) := Or.inl rfl
theorem fol_41 (u : List UInt8) : fol (41 :: u) := Or.inr (.inl rfl)
theorem fol_32 (u : List UInt8) : fol (32 :: u) := Or.inr (.inr (.inr (.inl rfl)))
theorem fol_59 (u : List UInt8) : fol (59 :: u) := Or.inr (.inr (.inr (.inr rfl)))
theorem fol_nof {u : List UInt8} (h : fol u) : nof inE u := by
  cases u with
  | nil => trivial
  | cons b u =>
    show inE b = false
    rcases h with rfl | rfl | rfl | rfl | rfl <;> rfl
/-- An expression that may be, of a depth. -/
def RE : Nat → Ex → Prop
  | 0, _ => False
  | d + 1, .mk k o n s ks => (∀ e ∈ ks, RE d e) ∧
    ((k = 1 ∧ o = 0 ∧ s = ByteArray.empty ∧ ks = []) ∨
    (k = 2 ∧ o = 0 ∧ n = 0 ∧ isE s = true ∧ ks = []) ∨
    (k = 3 ∧ o = 0 ∧ n = 0 ∧ isE s = true ∧ ∃ a, ks = [a]) ∨
    (k = 4 ∧ o = 0 ∧ n = 0 ∧ isE s = true ∧ ks.length ≤ 6) ∨
    (k = 5 ∧ o = 0 ∧ n = 0 ∧ s = ByteArray.empty ∧ ks = []) ∨
    (k = 7 ∧ o = 0 ∧ n = 0 ∧ s = ByteArray.empty ∧ ∃ a, ks = [a]) ∨
    (((k = 6 ∧ 4 ≤ o ∧ o ≤ 15) ∨ (k = 8 ∧ o = 0) ∨ (k = 9 ∧ o = 0)) ∧ n = 0 ∧ s = ByteArray.empty ∧ ∃ a b, ks = [a, b]))
def clE (k : Int) : Int := if k = 8 ∨ k = 9 then 6 else k
def tagE (w r : List UInt8) : Int :=
  match w with
  | [] => if r.head? = some 33 then 7 else 6
  | x :: _ => if digitE x = true then 1 else if w = [103, 101, 116] then 5 else if r.head? = some 91 then 3 else if r.head? = some 40 then 4 else 2
theorem tag_name {s : ByteArray} (h : isE s = true) (r : List UInt8) : tagE (lb s) r = if r.head? = some 91 then 3 else if r.head? = some 40 then 4 else 2 := by
  obtain ⟨h1, h2, h3, c, t, h4, h5⟩ := isE_is h
  have hg : lb s ≠ [103, 101, 116] := fun e => h3 (by
    rw [show s = ⟨#[103, 101, 116]⟩ from lb_inj e]
    simp [wordsL])
  have hd := (letter_in h5).2
  rw [h4] at hg ⊢
  unfold tagE
  simp only
  rw [if_neg (by rw [hd]; simp), if_neg hg]
theorem tag_dec (u : Nat) (r : List UInt8) : tagE (Lib.decDigits u) r = 1 := by
  obtain ⟨c, t, h1, h2⟩ := dec_cons u
  rw [h1]
  unfold tagE
  simp only
  rw [if_pos h2]
theorem tag_get (r : List UInt8) : tagE [103, 101, 116] r = 5 := by
  unfold tagE
  simp only
  rw [if_neg (by decide), if_pos trivial]
theorem tag_not (r : List UInt8) : tagE [] (33 :: r) = 7 := by
  unfold tagE
  simp
theorem sg_is {k o : Int} (h : (k = 6 ∧ 4 ≤ o ∧ o ≤ 15) ∨ (k = 8 ∧ o = 0) ∨ (k = 9 ∧ o = 0)) : (∀ x ∈ lb (sgE k o), (x != 32) = true) ∧ lb (sgE k o) ∈ ([[43], [45], [42], [47], [37], [38], [124], [94], [60, 60], [62, 62], [60], [61, 61], [38, 38], [124, 124]] : List (List UInt8)) := by
  rcases h with ⟨rfl, h1, h2⟩ | ⟨rfl, rfl⟩ | ⟨rfl, rfl⟩
  · have : o = 4 ∨ o = 5 ∨ o = 6 ∨ o = 7 ∨ o = 8 ∨ o = 9 ∨ o = 10 ∨ o = 11 ∨ o = 12 ∨ o = 13 ∨ o = 14 ∨ o = 15 := by omega
    rcases this with rfl | rfl | rfl | rfl | rfl | rfl | rfl | rfl | rfl | rfl | rfl | rfl <;> decide
  · decide
  · decide
def unsg (l : List UInt8) : Int × Int :=
  if l = [38, 38] then (8, 0) else if l = [124, 124] then (9, 0) else (6, 4 + (([[43], [45], [42], [47], [37], [38], [124], [94], [60, 60], [62, 62], [60], [61, 61]] : List (List UInt8)).idxOf l : Nat))
theorem unsg_is {k o : Int} (h : (k = 6 ∧ 4 ≤ o ∧ o ≤ 15) ∨ (k = 8 ∧ o = 0) ∨ (k = 9 ∧ o = 0)) : unsg (lb (sgE k o)) = (k, o) := by
  rcases h with ⟨rfl, h1, h2⟩ | ⟨rfl, rfl⟩ | ⟨rfl, rfl⟩
  · have : o = 4 ∨ o = 5 ∨ o = 6 ∨ o = 7 ∨ o = 8 ∨ o = 9 ∨ o = 10 ∨ o = 11 ∨ o = 12 ∨ o = 13 ∨ o = 14 ∨ o = 15 := by omega
    rcases this with rfl | rfl | rfl | rfl | rfl | rfl | rfl | rfl | rfl | rfl | rfl | rfl <;> decide
  · decide
  · decide
def binK (k o : Int) : Prop := (k = 6 ∧ 4 ≤ o ∧ o ≤ 15) ∨ (k = 8 ∧ o = 0) ∨ (k = 9 ∧ o = 0)
theorem prE_bin {k o : Int} (h : binK k o) (n : UInt32) (s : ByteArray) (a b : Ex) : lb (prE (.mk k o n s [a, b])) = 40 :: (lb (prE a) ++ 32 :: (lb (sgE k o) ++ 32 :: (lb (prE b) ++ [41]))) := by
  unfold binK at h
  rw [prE, if_neg (by omega), if_neg (by omega), if_neg (by omega), if_neg (by omega), if_neg (by omega), if_neg (by omega), prB]
  simp only [prEs, lb_app, Bool.false_eq_true, if_false, lb_nil, lb_mk, List.nil_append, List.append_nil, List.append_assoc]
  rfl
/-- The first bytes, as long as they may stand in a name; and what comes then. -/
theorem form {d : Nat} {k o : Int} {n : UInt32} {s : ByteArray} {ks : List Ex} (h : RE (d + 1) (.mk k o n s ks)) {u : List UInt8} (hu : fol u) :
    ∃ w r, lb (prE (.mk k o n s ks)) ++ u = w ++ r ∧ (∀ x ∈ w, inE x = true) ∧ nof inE r ∧ tagE w r = clE k ∧
      (k = 1 → w = Lib.decDigits n.toNat ∧ r = u) ∧ (k = 2 → w = lb s ∧ r = u) ∧ (k = 3 → w = lb s ∧ ∀ a, ks = [a] → r = 91 :: (lb (prE a) ++ 93 :: u)) ∧
      (k = 4 → w = lb s ∧ r = 40 :: (lb (prEs false ks) ++ 41 :: u)) ∧ (k = 5 → r = 40 :: 41 :: u) ∧ (k = 7 → ∀ a, ks = [a] → r = 33 :: (lb (prE a) ++ u)) ∧
      (binK k o → ∀ a b, ks = [a, b] → r = 40 :: (lb (prE a) ++ 32 :: (lb (sgE k o) ++ 32 :: (lb (prE b) ++ 41 :: u)))) := by
  have hh : u.head? ≠ some 91 ∧ u.head? ≠ some 40 ∧ u.head? ≠ some 33 := by
    cases u with
    | nil => exact hu.elim
    | cons b u => rcases hu with rfl | rfl | rfl | rfl | rfl <;> simp
  have hn := fol_nof hu
  rcases h.2 with ⟨rfl, rfl, rfl, rfl⟩ | ⟨rfl, rfl, rfl, h1, rfl⟩ | ⟨rfl, rfl, rfl, h1, a, rfl⟩ | ⟨rfl, rfl, rfl, h1, h2⟩ | ⟨rfl, rfl, rfl, rfl, rfl⟩ | ⟨rfl, rfl, rfl, rfl, a, rfl⟩ | ⟨hb, rfl, rfl, a, b, rfl⟩
  · refine ⟨Lib.decDigits n.toNat, u, rfl, fun x hx => digit_in (dec_all _ x hx), hn, tag_dec _ _, fun _ => ⟨rfl, rfl⟩, ?_⟩
    refine ⟨?_, ?_, ?_, ?_, ?_, ?_⟩ <;> simp [binK]
  · refine ⟨lb s, u, rfl, (isE_is h1).1, hn, by rw [tag_name h1, if_neg hh.1, if_neg hh.2.1]; rfl, by simp, fun _ => ⟨rfl, rfl⟩, ?_⟩
    refine ⟨?_, ?_, ?_, ?_, ?_⟩ <;> simp [binK]
  · refine ⟨lb s, 91 :: (lb (prE a) ++ 93 :: u), ?_, (isE_is h1).1, rfl, by rw [tag_name h1]; rfl, by simp, by simp, fun _ => ⟨rfl, fun b hb => by cases hb; rfl⟩, ?_⟩
    · have : prE (.mk 3 0 0 s [a]) = s ++ ⟨#[91]⟩ ++ prEs false [a] ++ ⟨#[93]⟩ := rfl
      rw [this]
      simp only [prEs, lb_app, Bool.false_eq_true, if_false, lb_nil, lb_mk, List.nil_append, List.append_nil, List.append_assoc]
      rfl
    · refine ⟨?_, ?_, ?_, ?_⟩ <;> simp [binK]
  · refine ⟨lb s, 40 :: (lb (prEs false ks) ++ 41 :: u), ?_, (isE_is h1).1, rfl, by rw [tag_name h1]; rfl, by simp, by simp, by simp, fun _ => ⟨rfl, rfl⟩, ?_⟩
    · have : prE (.mk 4 0 0 s ks) = s ++ ⟨#[40]⟩ ++ prEs false ks ++ ⟨#[41]⟩ := rfl
      rw [this]
      simp only [lb_app, lb_mk, List.append_assoc]
      rfl
    · refine ⟨?_, ?_, ?_⟩ <;> simp [binK]
  · refine ⟨[103, 101, 116], 40 :: 41 :: u, rfl, by decide, rfl, by rw [tag_get]; decide, by simp, by simp, by simp, by simp, fun _ => rfl, ?_⟩
    refine ⟨?_, ?_⟩ <;> simp [binK]
  · refine ⟨[], 33 :: (lb (prE a) ++ u), ?_, by simp, rfl, by rw [tag_not]; decide, by simp, by simp, by simp, by simp, by simp, fun _ b hb => by cases hb; rfl, ?_⟩
    · have : prE (.mk 7 0 0 ByteArray.empty [a]) = ⟨#[33]⟩ ++ prEs false [a] := rfl
      rw [this]
      simp only [prEs, lb_app, Bool.false_eq_true, if_false, lb_nil, lb_mk, List.nil_append, List.append_nil, List.append_assoc]
      rfl
    · simp [binK]
  · refine ⟨[], 40 :: (lb (prE a) ++ 32 :: (lb (sgE k o) ++ 32 :: (lb (prE b) ++ 41 :: u))), ?_, by simp, rfl, ?_, ?_, ?_, ?_, ?_, ?_, ?_, fun _ a' b' hab => by cases hab; rfl⟩
    · rw [prE_bin hb]
      simp only [List.cons_append, List.append_assoc, List.nil_append]
    · have : clE k = 6 := by unfold clE; split <;> omega
      rw [this]
      rfl
    all_goals (intro hk; exfalso; omega)
theorem head_E {d : Nat} {e : Ex} (h : RE d e) : ∃ x t, lb (prE e) = x :: t ∧ (inE x = true ∨ x = 33 ∨ x = 40) := by
  cases d with
  | zero => exact h.elim
  | succ d =>
    obtain ⟨k, o, n, s, ks⟩ := e
    rcases h.2 with ⟨rfl, rfl, rfl, rfl⟩ | ⟨rfl, rfl, rfl, h1, rfl⟩ | ⟨rfl, rfl, rfl, h1, a, rfl⟩ | ⟨rfl, rfl, rfl, h1, h2⟩ | ⟨rfl, rfl, rfl, rfl, rfl⟩ | ⟨rfl, rfl, rfl, rfl, a, rfl⟩ | ⟨hb, rfl, rfl, a, b, rfl⟩
    · obtain ⟨c, t, h1, h2⟩ := dec_cons n.toNat
      exact ⟨c, t, h1, .inl (digit_in h2)⟩
    · obtain ⟨-, -, -, c, t, h4, h5⟩ := isE_is h1
      exact ⟨c, t, h4, .inl (letter_in h5).1⟩
    · obtain ⟨-, -, -, c, t, h4, h5⟩ := isE_is h1
      refine ⟨c, t ++ ([91] ++ (lb (prEs false [a]) ++ [93])), ?_, .inl (letter_in h5).1⟩
      rw [show prE (.mk 3 0 0 s [a]) = s ++ ⟨#[91]⟩ ++ prEs false [a] ++ ⟨#[93]⟩ from rfl]
      simp only [lb_app, h4, List.append_assoc, List.cons_append]
      rfl
    · obtain ⟨-, -, -, c, t, h4, h5⟩ := isE_is h1
      refine ⟨c, t ++ ([40] ++ (lb (prEs false ks) ++ [41])), ?_, .inl (letter_in h5).1⟩
      rw [show prE (.mk 4 0 0 s ks) = s ++ ⟨#[40]⟩ ++ prEs false ks ++ ⟨#[41]⟩ from rfl]
      simp only [lb_app, h4, List.append_assoc, List.cons_append]
      rfl
    · exact ⟨103, _, rfl, .inl rfl⟩
    · refine ⟨33, lb (prEs false [a]), ?_, .inr (.inl rfl)⟩
      rw [show prE (.mk 7 0 0 ByteArray.empty [a]) = ⟨#[33]⟩ ++ prEs false [a] from rfl]
      simp only [lb_app]
      rfl
    · exact ⟨40, _, prE_bin hb _ _ _ _, .inr (.inr rfl)⟩
/-- What one text says of an expression that may be. -/
def OneE (e : Ex) : Prop := ∀ d' e', RE d' e' → ∀ u v, fol u → fol v → lb (prE e) ++ u = lb (prE e') ++ v → e = e' ∧ u = v
theorem fol_es (l : List Ex) (u : List UInt8) : fol (lb (prEs true l) ++ 41 :: u) := by
  cases l with
  | nil => exact .inr (.inl rfl)
  | cons e l => exact .inr (.inr (.inl rfl))
theorem lb_es (c : Bool) (e : Ex) (l : List Ex) : lb (prEs c (e :: l)) = (if c = true then [44, 32] else []) ++ (lb (prE e) ++ lb (prEs true l)) := by
  rw [prEs, lb_app, lb_app]
  cases c <;> simp [lb_mk, lb_nil]
theorem one_Es : ∀ (l : List Ex), (∀ e ∈ l, OneE e ∧ ∃ d, RE d e) → ∀ (c : Bool) (l' : List Ex) (d' : Nat), (∀ e ∈ l', RE d' e) → ∀ u v, lb (prEs c l) ++ 41 :: u = lb (prEs c l') ++ 41 :: v → l = l' ∧ u = v
  | [], _, c, [], d', _, u, v, h => by
    have h : 41 :: u = 41 :: v := h
    cases h
    exact ⟨rfl, rfl⟩
  | [], _, c, e' :: l', d', h', u, v, h => by
    exfalso
    rw [lb_es] at h
    obtain ⟨x, t, hx, hx1⟩ := head_E (h' e' (by simp))
    rw [hx] at h
    cases c with
    | true => simp [prEs, lb_nil] at h
    | false =>
      simp [prEs, lb_nil] at h
      obtain ⟨rfl, -⟩ := h
      revert hx1
      decide
  | e :: l, ih, c, [], d', _, u, v, h => by
    exfalso
    rw [lb_es] at h
    obtain ⟨x, t, hx, hx1⟩ := head_E (ih e (by simp)).2.choose_spec
    rw [hx] at h
    cases c with
    | true => simp [prEs, lb_nil] at h
    | false =>
      simp [prEs, lb_nil] at h
      obtain ⟨rfl, -⟩ := h
      revert hx1
      decide
  | e :: l, ih, c, e' :: l', d', h', u, v, h => by
    rw [lb_es, lb_es, List.append_assoc, List.append_assoc, List.append_assoc, List.append_assoc] at h
    have h2 := List.append_cancel_left h
    obtain ⟨rfl, h3⟩ := (ih e (by simp)).1 d' e' (h' e' (by simp)) _ _ (fol_es l u) (fol_es l' v) h2
    obtain ⟨rfl, rfl⟩ := one_Es l (fun e he => ih e (by simp [he])) true l' d' (fun e he => h' e (by simp [he])) u v h3
    exact ⟨rfl, rfl⟩
theorem nof_32 (u : List UInt8) : nof (fun x => x != 32) (32 :: u) := rfl
theorem one_E : ∀ (d : Nat) (e : Ex), RE d e → OneE e
  | 0, _, h => h.elim
  | d + 1, .mk k o n s ks, h => by
    intro d' e' h' u v hu hv he
    cases d' with
    | zero => exact h'.elim
    | succ d' =>
      obtain ⟨k', o', n', s', ks'⟩ := e'
      obtain ⟨w, r, e1, e2, e3, e4, f1, f2, f3, f4, f5, f7, f6⟩ := form h hu
      obtain ⟨w', r', e1', e2', e3', e4', f1', f2', f3', f4', f5', f7', f6'⟩ := form h' hv
      have ih : ∀ a ∈ ks, OneE a := fun a ha => one_E d a (h.1 a ha)
      rw [e1, e1'] at he
      obtain ⟨rfl, rfl⟩ := span_one e2 e2' e3 e3' he
      have hc : clE k = clE k' := by rw [← e4, ← e4']
      clear e1 e1' e2 e2' e3 e3' e4 e4' he
      have hk' : k' = 1 ∨ k' = 2 ∨ k' = 3 ∨ k' = 4 ∨ k' = 5 ∨ k' = 7 ∨ binK k' o' := by
        rcases h'.2 with h2 | h2 | h2 | h2 | h2 | h2 | h2
        · exact .inl h2.1
        · exact .inr (.inl h2.1)
        · exact .inr (.inr (.inl h2.1))
        · exact .inr (.inr (.inr (.inl h2.1)))
        · exact .inr (.inr (.inr (.inr (.inl h2.1))))
        · exact .inr (.inr (.inr (.inr (.inr (.inl h2.1)))))
        · exact .inr (.inr (.inr (.inr (.inr (.inr h2.1)))))
      have hr' := h'.2
      have hE' := h'.1
      clear h'
      rcases h.2 with ⟨rfl, rfl, rfl, rfl⟩ | ⟨rfl, rfl, rfl, h1, rfl⟩ | ⟨rfl, rfl, rfl, h1, a, rfl⟩ | ⟨rfl, rfl, rfl, h1, h2⟩ | ⟨rfl, rfl, rfl, rfl, rfl⟩ | ⟨rfl, rfl, rfl, rfl, a, rfl⟩ | ⟨hb, rfl, rfl, a, b, rfl⟩
      · have hk1 : k' = 1 := by
          have : clE 1 = 1 := rfl
          rw [this] at hc
          unfold clE at hc
          split at hc <;> omega
        subst hk1
        obtain ⟨g1, g2⟩ := f1 rfl
        obtain ⟨g1', g2'⟩ := f1' rfl
        have hn := UInt32.toNat_inj.1 (dec_inj (g1.symm.trans g1'))
        have huv : u = v := g2.symm.trans g2'
        rcases hr' with ⟨-, rfl, rfl, rfl⟩ | ⟨q, -⟩ | ⟨q, -⟩ | ⟨q, -⟩ | ⟨q, -⟩ | ⟨q, -⟩ | ⟨q, -⟩
        · rw [hn, huv]; exact ⟨rfl, rfl⟩
        all_goals (exfalso; omega)
      · have hk1 : k' = 2 := by
          have : clE 2 = 2 := rfl
          rw [this] at hc
          unfold clE at hc
          split at hc <;> omega
        subst hk1
        obtain ⟨g1, g2⟩ := f2 rfl
        obtain ⟨g1', g2'⟩ := f2' rfl
        have hs := lb_inj (g1.symm.trans g1')
        have huv : u = v := g2.symm.trans g2'
        rcases hr' with ⟨q, -⟩ | ⟨-, rfl, rfl, -, rfl⟩ | ⟨q, -⟩ | ⟨q, -⟩ | ⟨q, -⟩ | ⟨q, -⟩ | ⟨q, -⟩
        rotate_left
        · rw [hs, huv]; exact ⟨rfl, rfl⟩
        all_goals (exfalso; omega)
      · have hk1 : k' = 3 := by
          have : clE 3 = 3 := rfl
          rw [this] at hc
          unfold clE at hc
          split at hc <;> omega
        subst hk1
        obtain ⟨g1, g2⟩ := f3 rfl
        obtain ⟨g1', g2'⟩ := f3' rfl
        have hs := lb_inj (g1.symm.trans g1')
        rcases hr' with ⟨q, -⟩ | ⟨q, -⟩ | ⟨-, rfl, rfl, -, a', rfl⟩ | ⟨q, -⟩ | ⟨q, -⟩ | ⟨q, -⟩ | ⟨q, -⟩
        rotate_left
        rotate_left
        · have hh := (g2 _ rfl).symm.trans (g2' _ rfl)
          simp only [List.cons.injEq, true_and] at hh
          obtain ⟨rfl, hz⟩ := ih a (by simp) d' a' (hE' a' (by simp)) _ _ (fol_93 _) (fol_93 _) hh
          clear hh
          have hh := hz
          clear hz
          cases hh
          rw [hs]
          exact ⟨rfl, rfl⟩
        all_goals (exfalso; omega)
      · have hk1 : k' = 4 := by
          have : clE 4 = 4 := rfl
          rw [this] at hc
          unfold clE at hc
          split at hc <;> omega
        subst hk1
        obtain ⟨g1, g2⟩ := f4 rfl
        obtain ⟨g1', g2'⟩ := f4' rfl
        have hs := lb_inj (g1.symm.trans g1')
        rcases hr' with ⟨q, -⟩ | ⟨q, -⟩ | ⟨q, -⟩ | ⟨-, rfl, rfl, -, -⟩ | ⟨q, -⟩ | ⟨q, -⟩ | ⟨q, -⟩
        rotate_left
        rotate_left
        rotate_left
        · have hh := g2.symm.trans g2'
          simp only [List.cons.injEq, true_and] at hh
          obtain ⟨rfl, rfl⟩ := one_Es ks (fun e he => ⟨ih e he, d, h.1 e he⟩) false ks' d' hE' u v hh
          rw [hs]
          exact ⟨rfl, rfl⟩
        all_goals (exfalso; omega)
      · have hk1 : k' = 5 := by
          have : clE 5 = 5 := rfl
          rw [this] at hc
          unfold clE at hc
          split at hc <;> omega
        subst hk1
        have hh := (f5 rfl).symm.trans (f5' rfl)
        cases hh
        rcases hr' with ⟨q, -⟩ | ⟨q, -⟩ | ⟨q, -⟩ | ⟨q, -⟩ | ⟨-, rfl, rfl, rfl, rfl⟩ | ⟨q, -⟩ | ⟨q, -⟩
        rotate_left
        rotate_left
        rotate_left
        rotate_left
        · exact ⟨rfl, rfl⟩
        all_goals (exfalso; omega)
      · have hk1 : k' = 7 := by
          have : clE 7 = 7 := rfl
          rw [this] at hc
          unfold clE at hc
          split at hc <;> omega
        subst hk1
        rcases hr' with ⟨q, -⟩ | ⟨q, -⟩ | ⟨q, -⟩ | ⟨q, -⟩ | ⟨q, -⟩ | ⟨-, rfl, rfl, rfl, a', rfl⟩ | ⟨q, -⟩
        rotate_left
        rotate_left
        rotate_left
        rotate_left
        rotate_left
        · have hh := (f7 rfl _ rfl).symm.trans (f7' rfl _ rfl)
          simp only [List.cons.injEq, true_and] at hh
          obtain ⟨rfl, rfl⟩ := ih a (by simp) d' a' (hE' a' (by simp)) _ _ hu hv hh
          exact ⟨rfl, rfl⟩
        all_goals (exfalso; omega)
      · have hcl : clE k = 6 := by unfold clE; split <;> omega
        have hb' : binK k' o' := by
          rw [hcl] at hc
          rcases hk' with rfl | rfl | rfl | rfl | rfl | rfl | hb'
          rotate_left
          rotate_left
          rotate_left
          rotate_left
          rotate_left
          rotate_left
          · exact hb'
          all_goals (exfalso; revert hc; decide)
        have hb2 : binK k o := hb
        unfold binK at hb'
        rcases hr' with ⟨q, -⟩ | ⟨q, -⟩ | ⟨q, -⟩ | ⟨q, -⟩ | ⟨q, -⟩ | ⟨q, -⟩ | ⟨-, rfl, rfl, a', b', rfl⟩
        rotate_left
        rotate_left
        rotate_left
        rotate_left
        rotate_left
        rotate_left
        · have hh := (f6 hb2 _ _ rfl).symm.trans (f6' hb' _ _ rfl)
          simp only [List.cons.injEq, true_and] at hh
          obtain ⟨rfl, hz⟩ := ih a (by simp) d' a' (hE' a' (by simp)) _ _ (fol_32 _) (fol_32 _) hh
          clear hh
          have hh := hz
          clear hz
          simp only [List.cons.injEq, true_and] at hh
          obtain ⟨hsg, hz⟩ := span_one (sg_is hb).1 (sg_is hb').1 (nof_32 _) (nof_32 _) hh
          clear hh
          have hh := hz
          clear hz
          have hko := unsg_is hb
          rw [hsg, unsg_is hb'] at hko
          cases hko
          simp only [List.cons.injEq, true_and] at hh
          obtain ⟨rfl, hz⟩ := ih b (by simp) d' b' (hE' b' (by simp)) _ _ (fol_41 _) (fol_41 _) hh
          clear hh
          have hh := hz
          clear hz
          cases hh
          exact ⟨rfl, rfl⟩
        all_goals (exfalso; omega)
end Go.Proofs.YtddggjmfplohkaaDoor
