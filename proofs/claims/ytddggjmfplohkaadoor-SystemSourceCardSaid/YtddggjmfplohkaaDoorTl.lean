import Derived.Test.YtddggjmfplohkaaDoorTf
import Derived.Test.YtddggjmfplohkaaDoorTz
/- Which programs may be, in plain Lean; what comes of it. -/
namespace Go.Proofs.YtddggjmfplohkaaDoor
open Go.RowKit
def kdE (b : Bool) (k o : Int) (n : Nat) : Bool :=
  if k = 1 ∨ k = 2 ∨ k = 5 then decide (n = 0)
  else if k = 3 ∨ k = 7 then decide (n = 1) && b
  else if k = 4 then decide (n ≤ 6) && b
  else if k = 6 then decide (4 ≤ o) && (decide (o ≤ 15) && (decide (n = 2) && b))
  else if k = 8 ∨ k = 9 then decide (n = 2) && b else false
/-- May an expression be, with so many levels left? -/
noncomputable def rX : Nat → Ex → Bool
  | 0, _ => false
  | r + 1, .mk k o n s ks =>
    if (k ≠ 6 ∧ o ≠ 0) ∨ (k ≠ 1 ∧ n ≠ 0) then false
    else if k = 2 ∨ k = 3 ∨ k = 4 then (if isE s = true then kdE (ks.all fun e => rX r e) k o ks.length else false)
    else (if s = ByteArray.empty then kdE (ks.all fun e => rX r e) k o ks.length else false)
def fitE (k : Int) (n : Nat) : Bool :=
  if k = 1 ∨ k = 3 ∨ k = 4 ∨ k = 5 then decide (n = 1) else if k = 2 then decide (n = 2) else if k = 6 then decide (n ≤ 6) else if k = 7 then decide (n ≤ 1) else false
/-- May a statement be, with so many levels left? -/
noncomputable def rS : Nat → Sm → Bool
  | 0, _ => false
  | r + 1, .mk k s es t f =>
    if (k ≠ 4 ∧ f.length ≠ 0) ∨ (k ≠ 4 ∧ k ≠ 5 ∧ t.length ≠ 0) then false
    else if k = 1 ∨ k = 2 ∨ k = 6 then (if isE s = true then (fitE k es.length && ((es.all fun e => rX r e) && ((t.all fun x => rS r x) && (f.all fun x => rS r x)))) else false)
    else (if s = ByteArray.empty then (fitE k es.length && ((es.all fun e => rX r e) && ((t.all fun x => rS r x) && (f.all fun x => rS r x)))) else false)
noncomputable def arOk (a : Ar) : Bool := isE a.name && (decide (1 ≤ a.size) && decide (a.size ≤ 4096))
noncomputable def fuOk (f : Fu) : Bool := isE f.name && (decide (f.params.length ≤ 6) && (f.params.all isE && (f.locals.all isE && f.body.all fun x => rS 24 x)))
/-- May a program be? -/
noncomputable def rP (p : Pg) : Bool := p.vars.all isE && (decide (1 ≤ p.funcs.length) && (decide (p.funcs.length ≤ 64) && (p.arrays.all arOk && p.funcs.all fuOk)))
end Go.Proofs.YtddggjmfplohkaaDoor

/- What comes of it that a program may be: it is printed as it is read, and its text isn't long. -/
namespace Go.Proofs.YtddggjmfplohkaaDoor
open Go.RowKit
theorem len1 {α : Type} {l : List α} (h : l.length = 1) : ∃ a, l = [a] := by
  match l, h with
  | [a], _ => exact ⟨a, rfl⟩
theorem len2 {α : Type} {l : List α} (h : l.length = 2) : ∃ a b, l = [a, b] := by
  match l, h with
  | [a, b], _ => exact ⟨a, b, rfl⟩
set_option maxHeartbeats 4000000 in
theorem rX_RE : ∀ (r : Nat) (e : Ex), rX r e = true → RE r e
  | 0, _, h => by simp [rX] at h
  | r + 1, .mk k o n s ks, h => by
    rw [rX] at h
    have hk : ∀ b, kdE b k o ks.length = true → (ks ≠ [] → b = true) ∧ ((k = 1 ∧ ks = []) ∨ (k = 2 ∧ ks = []) ∨ (k = 5 ∧ ks = []) ∨ (k = 3 ∧ ∃ a, ks = [a]) ∨ (k = 7 ∧ ∃ a, ks = [a]) ∨ (k = 4 ∧ ks.length ≤ 6) ∨ ((k = 6 ∧ 4 ≤ o ∧ o ≤ 15) ∧ ∃ a b, ks = [a, b]) ∨ ((k = 8 ∨ k = 9) ∧ ∃ a b, ks = [a, b])) := fun b hb => by
      unfold kdE at hb
      split at hb
      · rename_i h1
        have : ks = [] := List.eq_nil_of_length_eq_zero (of_decide_eq_true hb)
        refine ⟨fun h => absurd this h, ?_⟩
        rcases h1 with h1 | h1 | h1
        · exact .inl ⟨h1, this⟩
        · exact .inr (.inl ⟨h1, this⟩)
        · exact .inr (.inr (.inl ⟨h1, this⟩))
      · split at hb
        · rename_i h1
          simp only [Bool.and_eq_true, decide_eq_true_eq] at hb
          refine ⟨fun _ => hb.2, ?_⟩
          rcases h1 with h1 | h1
          · exact .inr (.inr (.inr (.inl ⟨h1, len1 hb.1⟩)))
          · exact .inr (.inr (.inr (.inr (.inl ⟨h1, len1 hb.1⟩))))
        · split at hb
          · rename_i h1
            simp only [Bool.and_eq_true, decide_eq_true_eq] at hb
            exact ⟨fun _ => hb.2, .inr (.inr (.inr (.inr (.inr (.inl ⟨h1, hb.1⟩)))))⟩
          · split at hb
            · rename_i h1
              simp only [Bool.and_eq_true, decide_eq_true_eq] at hb
              exact ⟨fun _ => hb.2.2.2, .inr (.inr (.inr (.inr (.inr (.inr (.inl ⟨⟨h1, hb.1, hb.2.1⟩, len2 hb.2.2.1⟩))))))⟩
            · split at hb
              · rename_i h1
                simp only [Bool.and_eq_true, decide_eq_true_eq] at hb
                exact ⟨fun _ => hb.2, .inr (.inr (.inr (.inr (.inr (.inr (.inr ⟨h1, len2 hb.1⟩))))))⟩
              · cases hb
    split at h
    · cases h
    · rename_i ha
      have ho : k ≠ 6 → o = 0 := fun h6 => Decidable.byContradiction fun h => ha (.inl ⟨h6, h⟩)
      have hn : k ≠ 1 → n = 0 := fun h6 => Decidable.byContradiction fun h => ha (.inr ⟨h6, h⟩)
      clear ha
      have hall : (∃ b, kdE b k o ks.length = true ∧ (b = true → ∀ e ∈ ks, RE r e)) → ∀ e ∈ ks, RE r e := fun ⟨b, hb, hb2⟩ e he => hb2 ((hk b hb).1 (fun h => by rw [h] at he; cases he)) e he
      have hb0 : (ks.all fun e => rX r e) = true → ∀ e ∈ ks, RE r e := fun h e he => rX_RE r e (List.all_eq_true.1 h e he)
      by_cases hnm : k = 2 ∨ k = 3 ∨ k = 4
      · rw [if_pos hnm] at h
        by_cases hs : isE s = true
        · rw [if_pos hs] at h
          refine ⟨hall ⟨_, h, hb0⟩, ?_⟩
          obtain ⟨-, hq⟩ := hk _ h
          clear hk hall hb0 h
          rcases hq with ⟨rfl, h1⟩ | ⟨rfl, h1⟩ | ⟨rfl, h1⟩ | ⟨rfl, h1⟩ | ⟨rfl, h1⟩ | ⟨rfl, h1⟩ | ⟨⟨rfl, h2⟩, h1⟩ | ⟨rfl | rfl, h1⟩
          · exact absurd hnm (by decide)
          · exact .inr (.inl ⟨rfl, ho (by decide), hn (by decide), hs, h1⟩)
          · exact absurd hnm (by decide)
          · exact .inr (.inr (.inl ⟨rfl, ho (by decide), hn (by decide), hs, h1⟩))
          · exact absurd hnm (by decide)
          · exact .inr (.inr (.inr (.inl ⟨rfl, ho (by decide), hn (by decide), hs, h1⟩)))
          · exact absurd hnm (by decide)
          · exact absurd hnm (by decide)
          · exact absurd hnm (by decide)
        · rw [if_neg hs] at h
          cases h
      · rw [if_neg hnm] at h
        by_cases hs : s = ByteArray.empty
        · rw [if_pos hs] at h
          refine ⟨hall ⟨_, h, hb0⟩, ?_⟩
          obtain ⟨-, hq⟩ := hk _ h
          clear hk hall hb0 h
          rcases hq with ⟨rfl, h1⟩ | ⟨rfl, h1⟩ | ⟨rfl, h1⟩ | ⟨rfl, h1⟩ | ⟨rfl, h1⟩ | ⟨rfl, h1⟩ | ⟨⟨rfl, h2⟩, h1⟩ | ⟨rfl | rfl, h1⟩
          · exact .inl ⟨rfl, ho (by decide), hs, h1⟩
          · exact absurd (by decide) hnm
          · exact .inr (.inr (.inr (.inr (.inl ⟨rfl, ho (by decide), hn (by decide), hs, h1⟩))))
          · exact absurd (by decide) hnm
          · exact .inr (.inr (.inr (.inr (.inr (.inl ⟨rfl, ho (by decide), hn (by decide), hs, h1⟩)))))
          · exact absurd (by decide) hnm
          · exact .inr (.inr (.inr (.inr (.inr (.inr ⟨.inl ⟨rfl, h2⟩, hn (by decide), hs, h1⟩)))))
          · exact .inr (.inr (.inr (.inr (.inr (.inr ⟨.inr (.inl ⟨rfl, ho (by decide)⟩), hn (by decide), hs, h1⟩)))))
          · exact .inr (.inr (.inr (.inr (.inr (.inr ⟨.inr (.inr ⟨rfl, ho (by decide)⟩), hn (by decide), hs, h1⟩)))))
        · rw [if_neg hs] at h
          cases h
theorem RE_ok : ∀ (d : Nat) (e : Ex), RE d e → okE d e
  | 0, _, h => h
  | d + 1, .mk k o n s ks, h => by
    have hi : ∀ e ∈ ks, okE d e := fun e he => RE_ok d e (h.1 e he)
    rcases h.2 with ⟨rfl, rfl, rfl, rfl⟩ | ⟨rfl, rfl, rfl, h1, rfl⟩ | ⟨rfl, rfl, rfl, h1, a, rfl⟩ | ⟨rfl, rfl, rfl, h1, h2⟩ | ⟨rfl, rfl, rfl, rfl, rfl⟩ | ⟨rfl, rfl, rfl, rfl, a, rfl⟩ | ⟨hb, rfl, rfl, a, b, rfl⟩
    · exact ⟨by simp, by omega, by omega, by omega, hi⟩
    · exact ⟨by simp, by omega, by omega, by omega, hi⟩
    · exact ⟨by simp, by omega, by omega, by omega, hi⟩
    · exact ⟨h2, by omega, by omega, by omega, hi⟩
    · exact ⟨by simp, by omega, by omega, by omega, hi⟩
    · exact ⟨by simp, by omega, by omega, by omega, hi⟩
    · exact ⟨by simp, by omega, by simp, by omega, hi⟩
set_option maxHeartbeats 4000000 in
theorem rS_RS : ∀ (r : Nat) (x : Sm), rS r x = true → RS r x
  | 0, _, h => by simp [rS] at h
  | r + 1, .mk k s es t f, h => by
    rw [rS] at h
    have hk : fitE k es.length = true → ((k = 1 ∨ k = 3 ∨ k = 4 ∨ k = 5) ∧ ∃ a, es = [a]) ∨ (k = 2 ∧ ∃ a b, es = [a, b]) ∨ (k = 6 ∧ es.length ≤ 6) ∨ (k = 7 ∧ (es = [] ∨ ∃ a, es = [a])) := fun hb => by
      unfold fitE at hb
      split at hb
      · rename_i h1
        exact .inl ⟨h1, len1 (of_decide_eq_true hb)⟩
      · split at hb
        · rename_i h1
          exact .inr (.inl ⟨h1, len2 (of_decide_eq_true hb)⟩)
        · split at hb
          · rename_i h1
            exact .inr (.inr (.inl ⟨h1, of_decide_eq_true hb⟩))
          · split at hb
            · rename_i h1
              refine .inr (.inr (.inr ⟨h1, ?_⟩))
              have := of_decide_eq_true hb
              by_cases h0 : es.length = 0
              · exact .inl (List.eq_nil_of_length_eq_zero h0)
              · exact .inr (len1 (by omega))
            · cases hb
    split at h
    · cases h
    · rename_i ha
      have hf0 : k ≠ 4 → f = [] := fun h4 => List.eq_nil_of_length_eq_zero (Decidable.byContradiction fun h => ha (.inl ⟨h4, h⟩))
      have ht0 : k ≠ 4 → k ≠ 5 → t = [] := fun h4 h5 => List.eq_nil_of_length_eq_zero (Decidable.byContradiction fun h => ha (.inr ⟨h4, h5, h⟩))
      clear ha
      have hall : (fitE k es.length && ((es.all fun e => rX r e) && ((t.all fun x => rS r x) && (f.all fun x => rS r x)))) = true → fitE k es.length = true ∧ (∀ e ∈ es, RE r e) ∧ (∀ x ∈ t, RS r x) ∧ ∀ x ∈ f, RS r x := fun h => by
        simp only [Bool.and_eq_true, List.all_eq_true] at h
        exact ⟨h.1, fun e he => rX_RE r e (h.2.1 e he), fun x hx => rS_RS r x (h.2.2.1 x hx), fun x hx => rS_RS r x (h.2.2.2 x hx)⟩
      by_cases hnm : k = 1 ∨ k = 2 ∨ k = 6
      · rw [if_pos hnm] at h
        by_cases hs : isE s = true
        · rw [if_pos hs] at h
          obtain ⟨h1, h2, h3, h4⟩ := hall h
          refine ⟨h2, h3, h4, ?_⟩
          have hq := hk h1
          clear hk hall h h1 h2 h3 h4
          rcases hq with ⟨rfl | rfl | rfl | rfl, q2⟩ | ⟨rfl, q2⟩ | ⟨rfl, q2⟩ | ⟨rfl, q2⟩
          · exact .inl ⟨rfl, hs, q2, ht0 (by decide) (by decide), hf0 (by decide)⟩
          · exact absurd hnm (by decide)
          · exact absurd hnm (by decide)
          · exact absurd hnm (by decide)
          · exact .inr (.inl ⟨rfl, hs, q2, ht0 (by decide) (by decide), hf0 (by decide)⟩)
          · exact .inr (.inr (.inr (.inr (.inr (.inl ⟨rfl, hs, q2, ht0 (by decide) (by decide), hf0 (by decide)⟩)))))
          · exact absurd hnm (by decide)
        · rw [if_neg hs] at h
          cases h
      · rw [if_neg hnm] at h
        by_cases hs : s = ByteArray.empty
        · rw [if_pos hs] at h
          obtain ⟨h1, h2, h3, h4⟩ := hall h
          refine ⟨h2, h3, h4, ?_⟩
          have hq := hk h1
          clear hk hall h h1 h2 h3 h4
          rcases hq with ⟨rfl | rfl | rfl | rfl, q2⟩ | ⟨rfl, q2⟩ | ⟨rfl, q2⟩ | ⟨rfl, q2⟩
          · exact absurd (by decide) hnm
          · exact .inr (.inr (.inl ⟨rfl, hs, q2, ht0 (by decide) (by decide), hf0 (by decide)⟩))
          · exact .inr (.inr (.inr (.inl ⟨rfl, hs, q2⟩)))
          · exact .inr (.inr (.inr (.inr (.inl ⟨rfl, hs, q2, hf0 (by decide)⟩))))
          · exact absurd (by decide) hnm
          · exact absurd (by decide) hnm
          · exact .inr (.inr (.inr (.inr (.inr (.inr ⟨rfl, hs, q2, ht0 (by decide) (by decide), hf0 (by decide)⟩)))))
        · rw [if_neg hs] at h
          cases h
/-- Sizes. -/
theorem dig_le (u : Nat) (h : u < 4294967296) : Lib.nDigits u ≤ 20 := by
  have h1 := Lib.nDigits_pos u
  refine Decidable.byContradiction fun hc => ?_
  have h2 : ∀ k v, 10 ^ k ≤ v ∨ Lib.nDigits v ≤ k ∨ k = 0 := by
    intro k
    induction k with
    | zero => intro v; exact .inr (.inr rfl)
    | succ k ih =>
      intro v
      by_cases hv : v < 10
      · exact .inr (.inl (by rw [Lib.nDigits_small hv]; omega))
      · rcases ih (v / 10) with h | h | h
        · exact .inl (by rw [Nat.pow_succ]; omega)
        · exact .inr (.inl (by rw [Lib.nDigits_big hv]; omega))
        · subst h
          exact .inl (by simp; omega)
  rcases h2 20 u with h | h | h
  · omega
  · exact hc h
  · omega
theorem dec_size (u : Nat) (h : u < 4294967296) : (decE u).size ≤ 20 := by
  show (Lib.decDigits u).toArray.size ≤ 20
  rw [List.size_toArray, Lib.decDigits_length]
  exact dig_le u h
theorem sg_size {k o : Int} (h : binK k o) : (sgE k o).size ≤ 2 := by
  rcases h with ⟨rfl, h1, h2⟩ | ⟨rfl, rfl⟩ | ⟨rfl, rfl⟩
  · have : o = 4 ∨ o = 5 ∨ o = 6 ∨ o = 7 ∨ o = 8 ∨ o = 9 ∨ o = 10 ∨ o = 11 ∨ o = 12 ∨ o = 13 ∨ o = 14 ∨ o = 15 := by omega
    rcases this with rfl | rfl | rfl | rfl | rfl | rfl | rfl | rfl | rfl | rfl | rfl | rfl <;> decide
  · decide
  · decide
theorem lit_size (x : Array UInt8) : (⟨x⟩ : ByteArray).size = x.size := rfl
theorem es_size : ∀ (l : List Ex) (c : Bool), (∀ e ∈ l, (prE e).size + 2 ≤ 40 * cnE e) → (prEs c l).size ≤ 40 * cnEs l
  | [], _, _ => Nat.zero_le _
  | e :: l, c, h => by
    have h1 := h e (by simp)
    have h2 := es_size l true (fun x hx => h x (by simp [hx]))
    rw [prEs, cnEs]
    simp only [ByteArray.size_append]
    have : (if c = true then (⟨#[44, 32]⟩ : ByteArray) else ByteArray.empty).size ≤ 2 := by cases c <;> decide
    omega
theorem E_size : ∀ (d : Nat) (e : Ex), RE d e → (prE e).size + 2 ≤ 40 * cnE e
  | 0, _, h => h.elim
  | d + 1, .mk k o n s ks, h => by
    have hi : ∀ e ∈ ks, (prE e).size + 2 ≤ 40 * cnE e := fun e he => E_size d e (h.1 e he)
    have hs := es_size ks false hi
    rw [cnE]
    rcases h.2 with ⟨rfl, rfl, rfl, rfl⟩ | ⟨rfl, rfl, rfl, h1, rfl⟩ | ⟨rfl, rfl, rfl, h1, a, rfl⟩ | ⟨rfl, rfl, rfl, h1, h2⟩ | ⟨rfl, rfl, rfl, rfl, rfl⟩ | ⟨rfl, rfl, rfl, rfl, a, rfl⟩ | ⟨hb, rfl, rfl, a, b, rfl⟩
    · have := dec_size n.toNat n.toNat_lt
      rw [show prE (.mk 1 0 n ByteArray.empty []) = decE n.toNat from rfl]
      omega
    · have := (isE_is h1).2.1
      rw [show prE (.mk 2 0 0 s []) = s from rfl]
      omega
    · have := (isE_is h1).2.1
      rw [show prE (.mk 3 0 0 s [a]) = s ++ ⟨#[91]⟩ ++ prEs false [a] ++ ⟨#[93]⟩ from rfl]
      simp only [ByteArray.size_append, lit_size]
      simp only [List.size_toArray, List.length_cons, List.length_nil]
      omega
    · have := (isE_is h1).2.1
      rw [show prE (.mk 4 0 0 s ks) = s ++ ⟨#[40]⟩ ++ prEs false ks ++ ⟨#[41]⟩ from rfl]
      simp only [ByteArray.size_append, lit_size]
      simp only [List.size_toArray, List.length_cons, List.length_nil]
      omega
    · show 5 + 2 ≤ _
      omega
    · rw [show prE (.mk 7 0 0 ByteArray.empty [a]) = ⟨#[33]⟩ ++ prEs false [a] from rfl]
      simp only [ByteArray.size_append, lit_size]
      simp only [List.size_toArray, List.length_cons, List.length_nil]
      omega
    · have hg := sg_size hb
      have h1 := lb_len (prE (.mk k o 0 ByteArray.empty [a, b]))
      rw [prE_bin hb] at h1
      simp only [List.length_cons, List.length_append, List.length_nil, lb_len] at h1
      have ha := hi a (by simp)
      have hb' := hi b (by simp)
      have hc : cnEs [a, b] = cnE a + (cnE b + 0) := rfl
      rw [hc]
      omega
theorem ss_size (lv : Nat) : ∀ (l : List Sm), (∀ x ∈ l, (prS lv x).size ≤ 1000 * cnS x) → (prSs lv l).size ≤ 1000 * cnSs l
  | [], _ => Nat.zero_le _
  | x :: l, h => by
    have h1 := h x (by simp)
    have h2 := ss_size lv l (fun x hx => h x (by simp [hx]))
    rw [prSs, cnSs, ByteArray.size_append]
    omega
theorem S_size : ∀ (d : Nat) (x : Sm), RS d x → ∀ lv, lv + d ≤ 100 → (prS lv x).size ≤ 1000 * cnS x
  | 0, _, h, _, _ => h.elim
  | d + 1, .mk k s es t f, h, lv, hlv => by
    have hs := es_size es false (fun e he => E_size d e (h.1 e he))
    have ht := ss_size (lv + 1) t (fun x hx => S_size d x (h.2.1 x hx) (lv + 1) (by omega))
    have hf := ss_size (lv + 1) f (fun x hx => S_size d x (h.2.2.1 x hx) (lv + 1) (by omega))
    have h1 : ∀ u, (prS lv (.mk k s es t f)).size = (lb (prS lv (.mk k s es t f)) ++ u).length - u.length := fun u => by
      rw [List.length_append, lb_len]; omega
    have hi := ind_size lv
    have he1 : ∀ a, es = [a] → (prE a).size ≤ 40 * cnEs es := fun a ha => by
      have := E_size d a (h.1 a (by rw [ha]; simp))
      rw [ha, cnEs, cnEs]; omega
    rw [cnS]
    rcases h.2.2.2 with ⟨rfl, q1, ⟨a, rfl⟩, rfl, rfl⟩ | ⟨rfl, q1, ⟨a, b, rfl⟩, rfl, rfl⟩ | ⟨rfl, rfl, ⟨a, rfl⟩, rfl, rfl⟩ | ⟨rfl, rfl, ⟨a, rfl⟩⟩ | ⟨rfl, rfl, ⟨a, rfl⟩, rfl⟩ | ⟨rfl, q1, q2, rfl, rfl⟩ | ⟨rfl, rfl, q2, rfl, rfl⟩
    · have := (isE_is q1).2.1
      rw [show prS lv (.mk 1 s [a] [] []) = indE lv ++ (s ++ ⟨#[32, 61, 32]⟩) ++ prEs false [a] ++ ⟨#[59]⟩ ++ ⟨#[10]⟩ from rfl]
      simp only [ByteArray.size_append, lit_size, List.size_toArray, List.length_cons, List.length_nil]
      omega
    · have := (isE_is q1).2.1
      have ha := E_size d a (h.1 a (by simp))
      have hb := es_size [b] false (fun e he => E_size d e (h.1 e (by simp at he; simp [he])))
      have hc : cnEs [a, b] = cnE a + cnEs [b] := rfl
      rw [show prS lv (.mk 2 s [a, b] [] []) = indE lv ++ (s ++ ⟨#[91]⟩) ++ prE a ++ ⟨#[93, 32, 61, 32]⟩ ++ prEs false [b] ++ ⟨#[59]⟩ ++ ⟨#[10]⟩ from rfl, hc]
      simp only [ByteArray.size_append, lit_size, List.size_toArray, List.length_cons, List.length_nil]
      omega
    · rw [show prS lv (.mk 3 ByteArray.empty [a] [] []) = indE lv ++ ⟨#[112, 117, 116, 40]⟩ ++ prEs false [a] ++ ⟨#[41, 59]⟩ ++ ⟨#[10]⟩ from rfl]
      simp only [ByteArray.size_append, lit_size, List.size_toArray, List.length_cons, List.length_nil]
      omega
    · rw [show prS lv (.mk 4 ByteArray.empty [a] t f) = indE lv ++ ⟨#[105, 102, 32, 40]⟩ ++ prEs false [a] ++ ⟨#[41, 32, 123]⟩ ++ ⟨#[10]⟩ ++ prSs (lv + 1) t ++ (if f.isEmpty = true then ByteArray.empty else indE lv ++ ⟨#[125, 32, 101, 108, 115, 101, 32, 123]⟩ ++ ⟨#[10]⟩ ++ prSs (lv + 1) f) ++ indE lv ++ ⟨#[125]⟩ ++ ⟨#[10]⟩ from rfl]
      have h3 : (if f.isEmpty = true then ByteArray.empty else indE lv ++ ⟨#[125, 32, 101, 108, 115, 101, 32, 123]⟩ ++ ⟨#[10]⟩ ++ prSs (lv + 1) f).size ≤ 2 * lv + 9 + (prSs (lv + 1) f).size := by
        split
        · exact Nat.zero_le _
        · simp only [ByteArray.size_append, lit_size, List.size_toArray, List.length_cons, List.length_nil]
          omega
      simp only [ByteArray.size_append, lit_size, List.size_toArray, List.length_cons, List.length_nil] at h3 ⊢
      omega
    · rw [show prS lv (.mk 5 ByteArray.empty [a] t []) = indE lv ++ ⟨#[119, 104, 105, 108, 101, 32, 40]⟩ ++ prEs false [a] ++ ⟨#[41, 32, 123]⟩ ++ ⟨#[10]⟩ ++ prSs (lv + 1) t ++ ByteArray.empty ++ indE lv ++ ⟨#[125]⟩ ++ ⟨#[10]⟩ from rfl]
      simp only [ByteArray.size_append, lit_size, List.size_toArray, List.length_cons, List.length_nil, ByteArray.size_empty]
      omega
    · have := (isE_is q1).2.1
      rw [show prS lv (.mk 6 s es [] []) = indE lv ++ (s ++ ⟨#[40]⟩) ++ prEs false es ++ ⟨#[41, 59]⟩ ++ ⟨#[10]⟩ from rfl]
      simp only [ByteArray.size_append, lit_size, List.size_toArray, List.length_cons, List.length_nil]
      omega
    · rcases q2 with rfl | ⟨a, rfl⟩
      · rw [show prS lv (.mk 7 ByteArray.empty [] [] []) = indE lv ++ ⟨#[114, 101, 116, 117, 114, 110]⟩ ++ ByteArray.empty ++ ⟨#[59]⟩ ++ ⟨#[10]⟩ from rfl]
        simp only [ByteArray.size_append, lit_size, List.size_toArray, List.length_cons, List.length_nil, ByteArray.size_empty]
        omega
      · rw [show prS lv (.mk 7 ByteArray.empty [a] [] []) = indE lv ++ ⟨#[114, 101, 116, 117, 114, 110]⟩ ++ (⟨#[32]⟩ ++ prEs false [a]) ++ ⟨#[59]⟩ ++ ⟨#[10]⟩ from rfl]
        simp only [ByteArray.size_append, lit_size, List.size_toArray, List.length_cons, List.length_nil]
        omega
theorem cm_size : ∀ (c : Bool) (l : List ByteArray), (∀ s ∈ l, isE s = true) → (cmL c l).length ≤ 22 * l.length
  | _, [], _ => Nat.zero_le _
  | c, s :: l, h => by
    have h1 := (isE_is (h s (by simp))).2.1
    have h2 := cm_size true l (fun x hx => h x (by simp [hx]))
    rw [cmL]
    simp only [List.length_append, List.length_cons, lb_len]
    have : (if c = true then [44, 32] else ([] : List UInt8)).length ≤ 2 := by cases c <;> decide
    omega
theorem F_size {f : Fu} (h : RF f) (hb : (prSs 1 f.body).size ≤ 1000 * cnSs f.body) : (prF f).size ≤ 100 + 22 * f.params.length + 22 * f.locals.length + 1000 * cnSs f.body := by
  have h1 := lb_F f []
  have h2 := congrArg List.length h1
  have hw : ∀ u, (wordL f.word u).length ≤ 10 + u.length := fun u => by
    unfold wordL
    split
    · simp only [List.length_cons]; omega
    · simp only [List.length_cons]; omega
  have hl : ∀ u, (locL f.locals u).length ≤ 10 + 22 * f.locals.length + u.length := fun u => by
    unfold locL
    split
    · omega
    · have := cm_size false f.locals h.locals
      simp only [List.length_cons, List.length_append]
      omega
  have hw2 := hw (locL f.locals (lb (prSs 1 f.body) ++ (lb (indE 0) ++ 125 :: 10 :: [])))
  have hl2 := hl (lb (prSs 1 f.body) ++ (lb (indE 0) ++ 125 :: 10 :: []))
  have hc := cm_size false f.params h.params
  have hn := (isE_is h.name).2.1
  have hi := ind_size 0
  simp only [List.length_append, List.length_cons, List.length_nil, lb_len] at h2 hw2 hl2
  omega
theorem Fs_size (B : Nat) : ∀ (l : List Fu), (∀ f ∈ l, (prF f).size ≤ B) → (prFs l).size ≤ B * l.length
  | [], _ => Nat.zero_le _
  | f :: l, h => by
    have h1 := h f (by simp)
    have h2 := Fs_size B l (fun x hx => h x (by simp [hx]))
    rw [prFs, ByteArray.size_append, List.length_cons, Nat.mul_succ]
    omega
theorem As_size : ∀ (l : List Ar), (∀ a ∈ l, RA a) → (prAs l).size ≤ 100 * l.length
  | [], _ => Nat.zero_le _
  | a :: l, h => by
    have h0 := h a (by simp)
    have h2 := As_size l (fun x hx => h x (by simp [hx]))
    have h1 := congrArg List.length (lb_A a [])
    have hn := (isE_is h0.name).2.1
    have hd : (Lib.decDigits a.size.toNat).length ≤ 20 := by
      rw [Lib.decDigits_length]
      have := h0.hi
      exact dig_le _ (by omega)
    simp only [List.length_append, List.length_cons, List.length_nil, lb_len] at h1
    rw [prAs, ByteArray.size_append, List.length_cons]
    omega
theorem rP_RP {p : Pg} (h : rP p = true) : RP p ∧ (∀ f ∈ p.funcs, ∀ x ∈ f.body, RS 24 x) := by
  unfold rP at h
  simp only [Bool.and_eq_true, decide_eq_true_eq, List.all_eq_true] at h
  obtain ⟨h1, h2, h3, h4, h5⟩ := h
  have hf : ∀ f ∈ p.funcs, ∀ x ∈ f.body, RS 24 x := fun f hf x hx => by
    have := h5 f hf
    unfold fuOk at this
    simp only [Bool.and_eq_true, decide_eq_true_eq, List.all_eq_true] at this
    exact rS_RS 24 x (this.2.2.2.2 x hx)
  refine ⟨⟨h1, fun a ha => ?_, fun f hf' => ?_, fun e => by rw [e] at h2; simp at h2⟩, hf⟩
  · have := h4 a ha
    unfold arOk at this
    simp only [Bool.and_eq_true, decide_eq_true_eq] at this
    exact ⟨this.1, this.2.1, this.2.2⟩
  · have := h5 f hf'
    unfold fuOk at this
    simp only [Bool.and_eq_true, decide_eq_true_eq, List.all_eq_true] at this
    exact ⟨this.1, this.2.2.1, this.2.2.2.1, 24, hf f hf'⟩
end Go.Proofs.YtddggjmfplohkaaDoor
