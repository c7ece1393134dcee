import Derived.Test.YtddggjmfplohkaaDoorKb
/- Names of a program, the document's. -/
namespace Go.Proofs.YtddggjmfplohkaaDoor
open Go.RowKit
set_option linter.unnecessarySimpa false
noncomputable def isE (s : ByteArray) : Bool := !hasB s wordsL && nmE s
theorem all_not {l : List ByteArray} {j : Nat} (hj : j < l.length) (h : isE (l.getD j ByteArray.empty) = false) : l.all isE = false := by
  rw [List.all_eq_false]
  refine ⟨l[j], List.getElem_mem hj, ?_⟩
  have e : l.getD j ByteArray.empty = l[j] := by simp [List.getD, hj]
  rw [← e, h]
  decide
theorem all_yes {l : List ByteArray} (h : ∀ i, i < l.length → isE (l.getD i ByteArray.empty) = true) : l.all isE = true := by
  rw [List.all_eq_true]
  intro b hb
  obtain ⟨i, hi, rfl⟩ := List.getElem_of_mem hb
  have e : l.getD i ByteArray.empty = l[i] := by simp [List.getD, hi]
  rw [← e]
  exact h i hi
end Go.Proofs.YtddggjmfplohkaaDoor

/- Right expressions are told by their texts. -/
namespace Go.Proofs.YtddggjmfplohkaaDoor
open Go.RowKit
def lb (s : ByteArray) : List UInt8 := s.data.toList
theorem lb_app (a b : ByteArray) : lb (a ++ b) = lb a ++ lb b := by unfold lb; rw [ByteArray.data_append, Array.toList_append]
theorem lb_inj {a b : ByteArray} (h : lb a = lb b) : a = b := by
  obtain ⟨⟨x⟩⟩ := a
  obtain ⟨⟨y⟩⟩ := b
  have h : x = y := h
  rw [h]
theorem lb_nil : lb ByteArray.empty = [] := rfl
theorem lb_mk (x : Array UInt8) : lb ⟨x⟩ = x.toList := rfl
theorem lb_len (s : ByteArray) : (lb s).length = s.size := by unfold lb ByteArray.size; exact Array.length_toList
/-- The first byte isn't one of these. -/
def nof (P : UInt8 → Bool) : List UInt8 → Prop
  | [] => True
  | b :: _ => P b = false
/-- What a name is. -/
theorem isE_is {s : ByteArray} (h : isE s = true) : (∀ x ∈ lb s, inE x = true) ∧ s.size ≤ 20 ∧ s ∉ wordsL ∧ ∃ c t, lb s = c :: t ∧ letterE c = true := by
  unfold isE nmE at h
  simp only [Bool.and_eq_true, decide_eq_true_eq, Bool.not_eq_true', List.all_eq_true] at h
  obtain ⟨h0, ⟨⟨⟨h1, h2⟩, h3⟩, h4⟩, h5⟩ := h
  refine ⟨h5, h2, fun hm => ?_, ?_⟩
  · rw [hasB_t hm] at h0; cases h0
  · obtain ⟨⟨l⟩⟩ := s
    cases l with
    | nil => exact absurd rfl h1
    | cons c t => exact ⟨c, t, rfl, h3⟩
theorem letter_in {c : UInt8} (h : letterE c = true) : inE c = true ∧ digitE c = false := by
  unfold inE
  refine ⟨by rw [h]; rfl, ?_⟩
  unfold letterE at h
  unfold digitE
  simp only [Bool.or_eq_true, Bool.and_eq_true, decide_eq_true_eq] at h
  simp only [Bool.and_eq_false_iff, decide_eq_false_iff_not]
  omega
/-- Digits. -/
theorem dg_is {k : Nat} (h : k < 10) : (UInt8.ofNat (48 + k)).toNat = 48 + k := by
  rw [UInt8.toNat_ofNat']; omega
theorem dg_digit {k : Nat} (h : k < 10) : digitE (UInt8.ofNat (48 + k)) = true := by
  unfold digitE
  rw [dg_is h]
  simp only [Bool.and_eq_true, decide_eq_true_eq]
  omega
theorem dec_all (u : Nat) : ∀ x ∈ Lib.decDigits u, digitE x = true := by
  induction u using Nat.strongRecOn with
  | _ u ih =>
    intro x hx
    rw [Lib.decDigits] at hx
    split at hx
    · simp only [List.mem_singleton] at hx
      subst hx
      exact dg_digit (by omega)
    · rcases List.mem_append.1 hx with hx | hx
      · exact ih (u / 10) (by omega) x hx
      · simp only [List.mem_singleton] at hx
        subst hx
        exact dg_digit (by omega)
theorem dec_cons (u : Nat) : ∃ c t, Lib.decDigits u = c :: t ∧ digitE c = true := by
  cases h : Lib.decDigits u with
  | nil =>
    have := Lib.decDigits_length u
    rw [h] at this
    have := Lib.nDigits_pos u
    simp at *
    omega
  | cons c t => exact ⟨c, t, rfl, dec_all u c (by rw [h]; simp)⟩
def valL (l : List UInt8) : Nat := l.foldl (fun a x => a * 10 + (x.toNat - 48)) 0
theorem val_dec (u : Nat) : valL (Lib.decDigits u) = u := by
  induction u using Nat.strongRecOn with
  | _ u ih =>
    rw [Lib.decDigits]
    split
    · have : valL [UInt8.ofNat (48 + u)] = (UInt8.ofNat (48 + u)).toNat - 48 := by simp [valL]
      rw [this, dg_is (by omega)]
      omega
    · have h1 := ih (u / 10) (by omega)
      unfold valL at h1 ⊢
      rw [List.foldl_append, h1]
      simp only [List.foldl_cons, List.foldl_nil]
      rw [dg_is (by omega)]
      omega
theorem digit_in {c : UInt8} (h : digitE c = true) : inE c = true := by unfold inE; rw [h]; simp
theorem lb_dec (u : Nat) : lb (decE u) = Lib.decDigits u := rfl
/-- What may stand behind an expression. -/
def fol : List UInt8 → Prop
  | [] => False
  | b :: _ => b = 93 ∨ b = 41 ∨ b = 44 ∨ b = 32 ∨ b = 59
theorem fol_93 (u : List UInt8) : fol (93 :: u) := Or.inl rfl
theorem fol_41 (u : List UInt8) : fol (41 :: u) := Or.inr (.inl rfl)
theorem fol_32 (u : List UInt8) : fol (32 :: u) := Or.inr (.inr (.inr (.inl rfl)))
theorem fol_59 (u : List UInt8) : fol (59 :: u) := Or.inr (.inr (.inr (.inr rfl)))
theorem fol_nof {u : List UInt8} (h : fol u) : nof inE u := by
  cases u with
  | nil => trivial
  | cons b u =>
    show inE b = false
    rcases h with rfl | rfl | rfl | rfl | rfl <;> rfl
/-- An expression that may be, of a depth. -/
def RE : Nat → Ex → Prop
  | 0, _ => False
  | d + 1, .mk k o n s ks => (∀ e ∈ ks, RE d e) ∧
    ((k = 1 ∧ o = 0 ∧ s = ByteArray.empty ∧ ks = []) ∨
    (k = 2 ∧ o = 0 ∧ n = 0 ∧ isE s = true ∧ ks = []) ∨
    (k = 3 ∧ o = 0 ∧ n = 0 ∧ isE s = true ∧ ∃ a, ks = [a]) ∨
    (k = 4 ∧ o = 0 ∧ n = 0 ∧ isE s = true ∧ ks.length ≤ 6) ∨
    (k = 5 ∧ o = 0 ∧ n = 0 ∧ s = ByteArray.empty ∧ ks = []) ∨
    (k = 7 ∧ o = 0 ∧ n = 0 ∧ s = ByteArray.empty ∧ ∃ a, ks = [a]) ∨
    (((k = 6 ∧ 4 ≤ o ∧ o ≤ 15) ∨ (k = 8 ∧ o = 0) ∨ (k = 9 ∧ o = 0)) ∧ n = 0 ∧ s = ByteArray.empty ∧ ∃ a b, ks = [a, b]))
def clE (k : Int) : Int := if k = 8 ∨ k = 9 then 6 else k
def tagE (w r : List UInt8) : Int :=
  match w with
  | [] => if r.head? = some 33 then 7 else 6
  | x :: _ => if digitE x = true then 1 else if w = [103, 101, 116] then 5 else if r.head? = some 91 then 3 else if r.head? = some 40 then 4 else 2
theorem tag_name {s : ByteArray} (h : isE s = true) (r : List UInt8) : tagE (lb s) r = if r.head? = some 91 then 3 else if r.head? = some 40 then 4 else 2 := by
  obtain ⟨h1, h2, h3, c, t, h4, h5⟩ := isE_is h
  have hg : lb s ≠ [103, 101, 116] := fun e => h3 (by
    rw [show s = ⟨#[103, 101, 116]⟩ from lb_inj e]
    simp [wordsL])
  have hd := (letter_in h5).2
  rw [h4] at hg ⊢
  unfold tagE
  simp only
  rw [if_neg (by rw [hd]; simp), if_neg hg]
theorem tag_dec (u : Nat) (r : List UInt8) : tagE (Lib.decDigits u) r = 1 := by
  obtain ⟨c, t, h1, h2⟩ := dec_cons u
  rw [h1]
  unfold tagE
  simp only
  rw [if_pos h2]
theorem tag_get (r : List UInt8) : tagE [103, 101, 116] r = 5 := by
  unfold tagE
  simp only
  rw [if_neg (by decide), if_pos trivial]
theorem tag_not (r : List UInt8) : tagE [] (33 :: r) = 7 := by
  unfold tagE
  simp
theorem sg_is {k o : Int} (h : (k = 6 ∧ 4 ≤ o ∧ o ≤ 15) ∨ (k = 8 ∧ o = 0) ∨ (k = 9 ∧ o = 0)) : (∀ x ∈ lb (sgE k o), (x != 32) = true) ∧ lb (sgE k o) ∈ ([[43], [45], [42], [47], [37], [38], [124], [94], [60, 60], [62, 62], [60], [61, 61], [38, 38], [124, 124]] : List (List UInt8)) := by
  rcases h with ⟨rfl, h1, h2⟩ | ⟨rfl, rfl⟩ | ⟨rfl, rfl⟩
  · have : o = 4 ∨ o = 5 ∨ o = 6 ∨ o = 7 ∨ o = 8 ∨ o = 9 ∨ o = 10 ∨ o = 11 ∨ o = 12 ∨ o = 13 ∨ o = 14 ∨ o = 15 := by omega
    rcases this with rfl | rfl | rfl | rfl | rfl | rfl | rfl | rfl | rfl | rfl | rfl | rfl <;> decide
  · decide
  · decide
def binK (k o : Int) : Prop := (k = 6 ∧ 4 ≤ o ∧ o ≤ 15) ∨ (k = 8 ∧ o = 0) ∨ (k = 9 ∧ o = 0)
theorem prE_bin {k o : Int} (h : binK k o) (n : UInt32) (s : ByteArray) (a b : Ex) : lb (prE (.mk k o n s [a, b])) = 40 :: (lb (prE a) ++ 32 :: (lb (sgE k o) ++ 32 :: (lb (prE b) ++ [41]))) := by
  unfold binK at h
  rw [prE, if_neg (by omega), if_neg (by omega), if_neg (by omega), if_neg (by omega), if_neg (by omega), if_neg (by omega), prB]
  simp only [prEs, lb_app, Bool.false_eq_true, if_false, lb_nil, lb_mk, List.nil_append, List.append_nil, List.append_assoc]
  rfl
/-- The first bytes, as long as they may stand in a name; and what comes then. -/
theorem form {d : Nat} {k o : Int} {n : UInt32} {s : ByteArray} {ks : List Ex} (h : RE (d + 1) (.mk k o n s ks)) {u : List UInt8} (hu : fol u) :
    ∃ w r, lb (prE (.mk k o n s ks)) ++ u = w ++ r ∧ (∀ x ∈ w, inE x = true) ∧ nof inE r ∧ tagE w r = clE k ∧
      (k = 1 → w = Lib.decDigits n.toNat ∧ r = u) ∧ (k = 2 → w = lb s ∧ r = u) ∧ (k = 3 → w = lb s ∧ ∀ a, ks = [a] → r = 91 :: (lb (prE a) ++ 93 :: u)) ∧
      (k = 4 → w = lb s ∧ r = 40 :: (lb (prEs false ks) ++ 41 :: u)) ∧ (k = 5 → r = 40 :: 41 :: u) ∧ (k = 7 → ∀ a, ks = [a] → r = 33 :: (lb (prE a) ++ u)) ∧
      (binK k o → ∀ a b, ks = [a, b] → r = 40 :: (lb (prE a) ++ 32 :: (lb (sgE k o) ++ 32 :: (lb (prE b) ++ 41 :: u)))) := by
  have hh : u.head? ≠ some 91 ∧ u.head? ≠ some 40 ∧ u.head? ≠ some 33 := by
    cases u with
    | nil => exact hu.elim
    | cons b u => rcases hu with rfl | rfl | rfl | rfl | rfl <;> simp
  have hn := fol_nof hu
  rcases h.2 with ⟨rfl, rfl, rfl, rfl⟩ | ⟨rfl, rfl, rfl, h1, rfl⟩ | ⟨rfl, rfl, rfl, h1, a, rfl⟩ | ⟨rfl, rfl, rfl, h1, h2⟩ | ⟨rfl, rfl, rfl, rfl, rfl⟩ | ⟨rfl, rfl, rfl, rfl, a, rfl⟩ | ⟨hb, rfl, rfl, a, b, rfl⟩
  · refine ⟨Lib.decDigits n.toNat, u, rfl, fun x hx => digit_in (dec_all _ x hx), hn, tag_dec _ _, fun _ => ⟨rfl, rfl⟩, ?_⟩
    refine ⟨?_, ?_, ?_, ?_, ?_, ?_⟩ <;> simp [binK]
  · refine ⟨lb s, u, rfl, (isE_is h1).1, hn, by rw [tag_name h1, if_neg hh.1, if_neg hh.2.1]; rfl, by simp, fun _ => ⟨rfl, rfl⟩, ?_⟩
    refine ⟨?_, ?_, ?_, ?_, ?_⟩ <;> simp [binK]
  · refine ⟨lb s, 91 :: (lb (prE a) ++ 93 :: u), ?_, (isE_is h1).1, rfl, by rw [tag_name h1]; rfl, by simp, by simp, fun _ => ⟨rfl, fun b hb => by cases hb; rfl⟩, ?_⟩
    · have : prE (.mk 3 0 0 s [a]) = s ++ ⟨#[91]⟩ ++ prEs false [a] ++ ⟨#[93]⟩ := rfl
      rw [this]
      simp only [prEs, lb_app, Bool.false_eq_true, if_false, lb_nil, lb_mk, List.nil_append, List.append_nil, List.append_assoc]
      rfl
    · refine ⟨?_, ?_, ?_, ?_⟩ <;> simp [binK]
  · refine ⟨lb s, 40 :: (lb (prEs false ks) ++ 41 :: u), ?_, (isE_is h1).1, rfl, by rw [tag_name h1]; rfl, by simp, by simp, by simp, fun _ => ⟨rfl, rfl⟩, ?_⟩
    · have : prE (.mk 4 0 0 s ks) = s ++ ⟨#[40]⟩ ++ prEs false ks ++ ⟨#[41]⟩ := rfl
      rw [this]
      simp only [lb_app, lb_mk, List.append_assoc]
      rfl
    · refine ⟨?_, ?_, ?_⟩ <;> simp [binK]
  · refine ⟨[103, 101, 116], 40 :: 41 :: u, rfl, by decide, rfl, by rw [tag_get]; decide, by simp, by simp, by simp, by simp, fun _ => rfl, ?_⟩
    refine ⟨?_, ?_⟩ <;> simp [binK]
  · refine ⟨[], 33 :: (lb (prE a) ++ u), ?_, by simp, rfl, by rw [tag_not]; decide, by simp, by simp, by simp, by simp, by simp, fun _ b hb => by cases hb; rfl, ?_⟩
    · have : prE (.mk 7 0 0 ByteArray.empty [a]) = ⟨#[33]⟩ ++ prEs false [a] := rfl
      rw [this]
      simp only [prEs, lb_app, Bool.false_eq_true, if_false, lb_nil, lb_mk, List.nil_append, List.append_nil, List.append_assoc]
      rfl
    · simp [binK]
  · refine ⟨[], 40 :: (lb (prE a) ++ 32 :: (lb (sgE k o) ++ 32 :: (lb (prE b) ++ 41 :: u))), ?_, by simp, rfl, ?_, ?_, ?_, ?_, ?_, ?_, ?_, fun _ a' b' hab => by cases hab; rfl⟩
    · rw [prE_bin hb]
      simp only [List.cons_append, List.append_assoc, List.nil_append]
    · have : clE k = 6 := by unfold clE; split <;> omega
      rw [this]
      rfl
    all_goals (intro hk; exfalso; omega)
theorem fol_es (l : List Ex) (u : List UInt8) : fol (lb (prEs true l) ++ 41 :: u) := by
  cases l with
  | nil => exact .inr (.inl rfl)
  | cons e l => exact .inr (.inr (.inl rfl))
theorem lb_es (c : Bool) (e : Ex) (l : List Ex) : lb (prEs c (e :: l)) = (if c = true then [44, 32] else []) ++ (lb (prE e) ++ lb (prEs true l)) := by
  rw [prEs, lb_app, lb_app]
  cases c <;> simp [lb_mk, lb_nil]
end Go.Proofs.YtddggjmfplohkaaDoor

/- Right programs are told by their texts. -/
namespace Go.Proofs.YtddggjmfplohkaaDoor
open Go.RowKit
/-- A statement that may be, of a depth. -/
def RS : Nat → Sm → Prop
  | 0, _ => False
  | d + 1, .mk k s es t f => (∀ e ∈ es, RE d e) ∧ (∀ x ∈ t, RS d x) ∧ (∀ x ∈ f, RS d x) ∧
    ((k = 1 ∧ isE s = true ∧ (∃ a, es = [a]) ∧ t = [] ∧ f = []) ∨
    (k = 2 ∧ isE s = true ∧ (∃ a b, es = [a, b]) ∧ t = [] ∧ f = []) ∨
    (k = 3 ∧ s = ByteArray.empty ∧ (∃ a, es = [a]) ∧ t = [] ∧ f = []) ∨
    (k = 4 ∧ s = ByteArray.empty ∧ ∃ a, es = [a]) ∨
    (k = 5 ∧ s = ByteArray.empty ∧ (∃ a, es = [a]) ∧ f = []) ∨
    (k = 6 ∧ isE s = true ∧ es.length ≤ 6 ∧ t = [] ∧ f = []) ∨
    (k = 7 ∧ s = ByteArray.empty ∧ (es = [] ∨ ∃ a, es = [a]) ∧ t = [] ∧ f = []))
theorem nof_c {P : UInt8 → Bool} {b : UInt8} {u : List UInt8} (h : P b = false) : nof P (b :: u) := h
theorem lb_ind (n : Nat) : lb (indE n) = List.replicate (2 * n) 32 := by
  induction n with
  | zero => rfl
  | succ n ih =>
    rw [indE, lb_app, ih, show 2 * (n + 1) = 2 * n + 2 by omega, ← List.replicate_append_replicate]
    rfl
theorem lb_e1 (a : Ex) : lb (prEs false [a]) = lb (prE a) := by
  rw [lb_es]; simp [prEs, lb_nil]
/-- Names with commas between, and what comes then. -/
def cmL : Bool → List ByteArray → List UInt8
  | _, [] => []
  | c, s :: l => (if c = true then [44, 32] else []) ++ (lb s ++ cmL true l)
theorem cm_tail (l : List ByteArray) : cmL true l = Lib.joinTail [44, 32] (l.map (·.data.toList)) := by
  induction l with
  | nil => rfl
  | cons s l ih =>
    rw [cmL, ih]
    simp [Lib.joinTail, lb]
theorem lb_join (l : List ByteArray) : lb (joinE l ⟨#[44, 32]⟩) = cmL false l := by
  cases l with
  | nil => rfl
  | cons s l =>
    rw [cmL, cm_tail]
    show Lib.join (s.data.toList :: l.map (·.data.toList)) [44, 32] = _
    rw [Lib.join_cons]
    simp [lb]
theorem nof_cm (l : List ByteArray) (b : UInt8) (hb : inE b = false) (u : List UInt8) : nof inE (cmL true l ++ b :: u) := by
  cases l with
  | nil => exact hb
  | cons s l => rfl
/-- A function that may be. -/
structure RF (f : Fu) : Prop where
  name : isE f.name = true
  params : ∀ s ∈ f.params, isE s = true
  locals : ∀ s ∈ f.locals, isE s = true
  body : ∃ d, ∀ x ∈ f.body, RS d x
def locL (l : List ByteArray) (u : List UInt8) : List UInt8 := if l = [] then u else 32 :: 32 :: 118 :: 97 :: 114 :: 32 :: (cmL false l ++ 59 :: 10 :: u)
def wordL (b : Bool) (u : List UInt8) : List UInt8 := if b = true then 32 :: 119 :: 111 :: 114 :: 100 :: 32 :: 123 :: 10 :: u else 32 :: 123 :: 10 :: u
theorem lb_F (f : Fu) (u : List UInt8) : lb (prF f) ++ u = 102 :: 117 :: 110 :: 99 :: 32 :: (lb f.name ++ 40 :: (cmL false f.params ++ 41 :: wordL f.word (locL f.locals (lb (prSs 1 f.body) ++ (lb (indE 0) ++ 125 :: 10 :: u))))) := by
  unfold prF wordL locL
  simp only [lb_app, lb_join, lb_mk, List.append_assoc]
  cases f.word with
  | false =>
    by_cases hl : f.locals = []
    · simp only [Bool.false_eq_true, if_false, hl, if_true, lb_nil]
      rfl
    · simp only [Bool.false_eq_true, if_false, hl, lb_nil, lb_app, lb_join, lb_mk, List.append_assoc]
      rfl
  | true =>
    by_cases hl : f.locals = []
    · simp only [hl, if_true, lb_nil, lb_mk]
      rfl
    · simp only [if_false, if_true, hl, lb_app, lb_join, lb_mk, List.append_assoc]
      rfl
structure RA (a : Ar) : Prop where
  name : isE a.name = true
  lo : 1 ≤ a.size
  hi : a.size ≤ 4096
theorem lb_A (a : Ar) (u : List UInt8) : lb (prA a) ++ u = 97 :: 114 :: 114 :: 97 :: 121 :: 32 :: (lb a.name ++ 91 :: (Lib.decDigits a.size.toNat ++ 93 :: 59 :: 10 :: u)) := by
  unfold prA
  simp only [lb_app, lb_mk, lb_dec, List.append_assoc]
  rfl
/-- A program that may be. -/
structure RP (p : Pg) : Prop where
  vars : ∀ s ∈ p.vars, isE s = true
  arrs : ∀ a ∈ p.arrays, RA a
  funs : ∀ f ∈ p.funcs, RF f
  some : p.funcs ≠ []
def varL (l : List ByteArray) (u : List UInt8) : List UInt8 := if l = [] then u else 118 :: 97 :: 114 :: 32 :: (cmL false l ++ 59 :: 10 :: u)
theorem lb_P (p : Pg) : lb (prP p) = varL p.vars (lb (prAs p.arrays) ++ lb (prFs p.funcs)) := by
  unfold prP varL
  by_cases h : p.vars = []
  · simp only [h, if_true, lb_app, lb_nil, List.nil_append]
  · simp only [h, if_false, lb_app, lb_join, lb_mk, List.append_assoc]
    rfl
theorem head_Fs {l : List Fu} (h : l ≠ []) : ∃ t, lb (prFs l) = 102 :: t := by
  cases l with
  | nil => exact absurd rfl h
  | cons f l =>
    rw [prFs, lb_app, lb_F]
    exact ⟨_, rfl⟩
end Go.Proofs.YtddggjmfplohkaaDoor

/- How many parts a program has, the document's: what is left of a number. -/
namespace Go.Proofs.YtddggjmfplohkaaDoor
open Go.RowKit
def esOf : Sm → List Ex
  | .mk _ _ es _ _ => es
def thOf : Sm → List Sm
  | .mk _ _ _ t _ => t
def elOf : Sm → List Sm
  | .mk _ _ _ _ f => f
mutual
/-- How many parts. -/
def cnE : Ex → Nat
  | .mk _ _ _ _ ks => 1 + cnEs ks
def cnEs : List Ex → Nat
  | [] => 0
  | e :: l => cnE e + cnEs l
end
mutual
def cnS : Sm → Nat
  | .mk _ _ es t f => 1 + cnEs es + cnSs t + cnSs f
def cnSs : List Sm → Nat
  | [] => 0
  | e :: l => cnS e + cnSs l
end
theorem cnS_is (e : Sm) : cnS e = 1 + cnEs (esOf e) + cnSs (thOf e) + cnSs (elOf e) := by obtain ⟨k, s, es, t, f⟩ := e; rfl
end Go.Proofs.YtddggjmfplohkaaDoor
