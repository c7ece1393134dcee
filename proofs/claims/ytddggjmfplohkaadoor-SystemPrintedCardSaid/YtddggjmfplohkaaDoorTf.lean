import Derived.Test.YtddggjmfplohkaaDoorTr
/- How many parts a program has, the document's: what is left of a number. -/
namespace Go.Proofs.YtddggjmfplohkaaDoor
open Go.RowKit
def ksOf : Ex → List Ex
  | .mk _ _ _ _ ks => ks
def esOf : Sm → List Ex
  | .mk _ _ es _ _ => es
def thOf : Sm → List Sm
  | .mk _ _ _ t _ => t
def elOf : Sm → List Sm
  | .mk _ _ _ _ f => f
/-- What is left behind expressions, of a depth. -/
def fewX : Nat → List Ex → Int → Int
  | 0, _, _ => 0
  | d + 1, l, left => l.foldl (fun a e => if 0 < a then fewX d (ksOf e) a else a) (left - l.length)
def stepX (d : Nat) (a : Int) (e : Ex) : Int := if 0 < a then fewX d (ksOf e) a else a
theorem fewX_s (d : Nat) (l : List Ex) (left : Int) : fewX (d + 1) l left = l.foldl (stepX d) (left - l.length) := rfl
def fewS : Nat → List Sm → Int → Int
  | 0, _, _ => 0
  | d + 1, l, left => l.foldl (fun a x => if 0 < a then
      (if 0 < fewX d (esOf x) a then
        (if 0 < fewS d (thOf x) (fewX d (esOf x) a) then fewS d (elOf x) (fewS d (thOf x) (fewX d (esOf x) a)) else fewS d (thOf x) (fewX d (esOf x) a))
      else fewX d (esOf x) a) else a) (left - l.length)
def tlS (d : Nat) (x : Sm) (b : Int) : Int := if 0 < b then (if 0 < fewS d (thOf x) b then fewS d (elOf x) (fewS d (thOf x) b) else fewS d (thOf x) b) else b
def stepS (d : Nat) (a : Int) (x : Sm) : Int := if 0 < a then tlS d x (fewX d (esOf x) a) else a
theorem fewS_s (d : Nat) (l : List Sm) (left : Int) : fewS (d + 1) l left = l.foldl (stepS d) (left - l.length) := rfl
def stepF (a : Int) (f : Fu) : Int :=
  if 0 < a then (if 0 < a - f.params.length - f.locals.length then fewS 40 f.body (a - f.params.length - f.locals.length) else a - f.params.length - f.locals.length) else a
/-- What is left behind a program. -/
def fewP (p : Pg) (most : Int) : Int := p.funcs.foldl stepF (most - p.vars.length - p.arrays.length - p.funcs.length)
/-- Bounds. -/
theorem fold_in {α : Type} {step : Int → α → Int} {lo hi : Int} : ∀ (l : List α), (∀ x ∈ l, ∀ a, lo ≤ a → a ≤ hi → lo ≤ step a x ∧ step a x ≤ a) → ∀ a, lo ≤ a → a ≤ hi → lo ≤ l.foldl step a ∧ l.foldl step a ≤ a
  | [], _, a, h1, _ => ⟨h1, Int.le_refl _⟩
  | x :: l, h, a, h1, h2 => by
    obtain ⟨h3, h4⟩ := h x (by simp) a h1 h2
    obtain ⟨h5, h6⟩ := fold_in l (fun y hy => h y (by simp [hy])) (step a x) h3 (by omega)
    exact ⟨h5, by rw [List.foldl_cons]; omega⟩
def lowN : Int := -200000000000000
theorem exL_ks {e : Ex} (h : ExL e) : (ksOf e).length ≤ reachBytes ∧ ∀ x ∈ ksOf e, ExL x := by
  cases h with
  | mk k o n s ks hs hl hk => exact ⟨hl, hk⟩
theorem smL_ks {e : Sm} (h : SmL e) : ((esOf e).length ≤ reachBytes ∧ (thOf e).length ≤ reachBytes ∧ (elOf e).length ≤ reachBytes) ∧ (∀ x ∈ esOf e, ExL x) ∧ (∀ x ∈ thOf e, SmL x) ∧ ∀ x ∈ elOf e, SmL x := by
  cases h with
  | mk k s es t f hs he ht hf hel htl hfl => exact ⟨⟨he, ht, hf⟩, hel, htl, hfl⟩
theorem fewX_in : ∀ (d : Nat) (l : List Ex), l.length ≤ reachBytes → (∀ e ∈ l, ExL e) → ∀ left, 0 ≤ left → left ≤ 1000 → lowN ≤ fewX d l left ∧ fewX d l left ≤ left
  | 0, l, _, _, left, h1, _ => ⟨by show (-200000000000000 : Int) ≤ 0; omega, h1⟩
  | d + 1, l, hl, h, left, h1, h2 => by
    have hr : reachBytes = 140737488351232 := rfl
    have hlow : lowN = -200000000000000 := rfl
    rw [fewX_s]
    obtain ⟨h3, h4⟩ := fold_in (step := stepX d) (lo := lowN) (hi := 1000) l (fun e he a ha hb => by
      unfold stepX
      split
      · obtain ⟨q1, q2⟩ := exL_ks (h e he)
        exact fewX_in d (ksOf e) q1 q2 a (by omega) hb
      · exact ⟨ha, Int.le_refl _⟩) (left - l.length) (by omega) (by omega)
    exact ⟨h3, by omega⟩
theorem fewS_in : ∀ (d : Nat) (l : List Sm), l.length ≤ reachBytes → (∀ e ∈ l, SmL e) → ∀ left, 0 ≤ left → left ≤ 1000 → lowN ≤ fewS d l left ∧ fewS d l left ≤ left
  | 0, l, _, _, left, h1, _ => ⟨by show (-200000000000000 : Int) ≤ 0; omega, h1⟩
  | d + 1, l, hl, h, left, h1, h2 => by
    have hr : reachBytes = 140737488351232 := rfl
    have hlow : lowN = -200000000000000 := rfl
    rw [fewS_s]
    obtain ⟨h3, h4⟩ := fold_in (step := stepS d) (lo := lowN) (hi := 1000) l (fun e he a ha hb => by
      obtain ⟨⟨q1, q2, q3⟩, q4, q5, q6⟩ := smL_ks (h e he)
      unfold stepS
      split
      · obtain ⟨r1, r2⟩ := fewX_in d (esOf e) q1 q4 a (by omega) hb
        unfold tlS
        split
        · obtain ⟨s1, s2⟩ := fewS_in d (thOf e) q2 q5 (fewX d (esOf e) a) (by omega) (by omega)
          split
          · obtain ⟨t1, t2⟩ := fewS_in d (elOf e) q3 q6 (fewS d (thOf e) (fewX d (esOf e) a)) (by omega) (by omega)
            exact ⟨t1, by omega⟩
          · exact ⟨s1, by omega⟩
        · exact ⟨r1, r2⟩
      · exact ⟨ha, Int.le_refl _⟩) (left - l.length) (by omega) (by omega)
    exact ⟨h3, by omega⟩
mutual
/-- How many parts. -/
def cnE : Ex → Nat
  | .mk _ _ _ _ ks => 1 + cnEs ks
def cnEs : List Ex → Nat
  | [] => 0
  | e :: l => cnE e + cnEs l
end
mutual
def cnS : Sm → Nat
  | .mk _ _ es t f => 1 + cnEs es + cnSs t + cnSs f
def cnSs : List Sm → Nat
  | [] => 0
  | e :: l => cnS e + cnSs l
end
theorem cnE_is (e : Ex) : cnE e = 1 + cnEs (ksOf e) := by obtain ⟨k, o, n, s, ks⟩ := e; rfl
theorem cnS_is (e : Sm) : cnS e = 1 + cnEs (esOf e) + cnSs (thOf e) + cnSs (elOf e) := by obtain ⟨k, s, es, t, f⟩ := e; rfl
/-- Nothing is too deep, and all rows are short. -/
def shrE : Nat → Ex → Prop
  | 0, _ => False
  | d + 1, e => (ksOf e).length ≤ 1000 ∧ ∀ x ∈ ksOf e, shrE d x
def shrS : Nat → Sm → Prop
  | 0, _ => False
  | d + 1, e => ((esOf e).length ≤ 1000 ∧ ∀ x ∈ esOf e, shrE d x) ∧ ((thOf e).length ≤ 1000 ∧ ∀ x ∈ thOf e, shrS d x) ∧ (elOf e).length ≤ 1000 ∧ ∀ x ∈ elOf e, shrS d x
theorem foldX : ∀ (d : Nat) (l : List Ex) (a : Int), (∀ e ∈ l, ∀ b, 0 < b → b ≤ 1000 → 0 < fewX d (ksOf e) b → fewX d (ksOf e) b + cnEs (ksOf e) ≤ b ∧ shrE d e) → a ≤ 1000 → 0 < l.foldl (stepX d) a → 0 < a ∧ l.foldl (stepX d) a + cnEs l ≤ a + l.length ∧ ∀ e ∈ l, shrE d e
  | d, [], a, _, _, h => ⟨h, by simp [cnEs], by simp⟩
  | d, e :: l, a, hs, ha, h => by
    rw [List.foldl_cons] at h ⊢
    by_cases h0 : 0 < a
    · have hst : stepX d a e = fewX d (ksOf e) a := by unfold stepX; rw [if_pos h0]
      rw [hst] at h ⊢
      have hp : 0 < fewX d (ksOf e) a → fewX d (ksOf e) a + cnEs (ksOf e) ≤ a ∧ shrE d e := hs e (by simp) a h0 ha
      by_cases h1 : fewX d (ksOf e) a ≤ 1000
      · obtain ⟨q1, q2, q3⟩ := foldX d l (fewX d (ksOf e) a) (fun x hx => hs x (by simp [hx])) h1 h
        obtain ⟨q4, q5⟩ := hp q1
        refine ⟨h0, ?_, fun x hx => ?_⟩
        · rw [cnEs, cnE_is]
          simp only [List.length_cons]
          omega
        · rcases List.mem_cons.1 hx with rfl | hx
          · exact q5
          · exact q3 x hx
      · obtain ⟨q4, q5⟩ := hp (by omega)
        omega
    · exfalso
      have hst : stepX d a e = a := by unfold stepX; rw [if_neg h0]
      rw [hst] at h
      exact h0 (foldX d l a (fun x hx => hs x (by simp [hx])) ha h).1
theorem fewX_cn : ∀ (d : Nat) (l : List Ex) (left : Int), left ≤ 1000 → 0 < fewX d l left → fewX d l left + cnEs l ≤ left ∧ l.length ≤ 1000 ∧ ∃ d', d = d' + 1 ∧ ∀ e ∈ l, shrE d' e
  | 0, _, _, _, h => by simp [fewX] at h
  | d + 1, l, left, hl, h => by
    rw [fewX_s] at h ⊢
    obtain ⟨h1, h2, h3⟩ := foldX d l (left - l.length) (fun e _ b hb hb1 h => by
      obtain ⟨q1, q2, d', rfl, q3⟩ := fewX_cn d (ksOf e) b hb1 h
      exact ⟨q1, q2, q3⟩) (by omega) h
    exact ⟨by omega, by omega, d, rfl, h3⟩
theorem foldS : ∀ (d : Nat) (l : List Sm) (a : Int), (∀ e ∈ l, ∀ b, 0 < b → b ≤ 1000 → 0 < tlS d e (fewX d (esOf e) b) → tlS d e (fewX d (esOf e) b) + cnEs (esOf e) + cnSs (thOf e) + cnSs (elOf e) ≤ b ∧ shrS d e) → a ≤ 1000 → 0 < l.foldl (stepS d) a → 0 < a ∧ l.foldl (stepS d) a + cnSs l ≤ a + l.length ∧ ∀ e ∈ l, shrS d e
  | d, [], a, _, _, h => ⟨h, by simp [cnSs], by simp⟩
  | d, e :: l, a, hs, ha, h => by
    rw [List.foldl_cons] at h ⊢
    by_cases h0 : 0 < a
    · have hst : stepS d a e = tlS d e (fewX d (esOf e) a) := by unfold stepS; rw [if_pos h0]
      rw [hst] at h ⊢
      have hp := hs e (by simp) a h0 ha
      by_cases h1 : tlS d e (fewX d (esOf e) a) ≤ 1000
      · obtain ⟨q1, q2, q3⟩ := foldS d l _ (fun x hx => hs x (by simp [hx])) h1 h
        obtain ⟨q4, q5⟩ := hp q1
        refine ⟨h0, ?_, fun x hx => ?_⟩
        · rw [cnSs, cnS_is]
          simp only [List.length_cons]
          omega
        · rcases List.mem_cons.1 hx with rfl | hx
          · exact q5
          · exact q3 x hx
      · obtain ⟨q4, q5⟩ := hp (by omega)
        omega
    · exfalso
      have hst : stepS d a e = a := by unfold stepS; rw [if_neg h0]
      rw [hst] at h
      exact h0 (foldS d l a (fun x hx => hs x (by simp [hx])) ha h).1
theorem fewS_cn : ∀ (d : Nat) (l : List Sm) (left : Int), left ≤ 1000 → 0 < fewS d l left → fewS d l left + cnSs l ≤ left ∧ l.length ≤ 1000 ∧ ∃ d', d = d' + 1 ∧ ∀ e ∈ l, shrS d' e
  | 0, _, _, _, h => by simp [fewS] at h
  | d + 1, l, left, hl, h => by
    rw [fewS_s] at h ⊢
    obtain ⟨h1, h2, h3⟩ := foldS d l (left - l.length) (fun e _ b hb hb1 h => by
      unfold tlS at h ⊢
      split at h
      · rename_i hx
        obtain ⟨x1, x2, d1, e1, x3⟩ := fewX_cn d (esOf e) b hb1 hx
        split at h
        · rename_i ht
          obtain ⟨t1, t2, d2, e2, t3⟩ := fewS_cn d (thOf e) _ (by omega) ht
          obtain ⟨f1, f2, d3, e3, f3⟩ := fewS_cn d (elOf e) _ (by omega) h
          rw [if_pos hx, if_pos ht]
          obtain rfl : d1 = d2 := by omega
          obtain rfl : d1 = d3 := by omega
          refine ⟨by omega, ?_⟩
          rw [e1]
          exact ⟨⟨x2, x3⟩, ⟨t2, t3⟩, f2, f3⟩
        · omega
      · omega) (by omega) h
    exact ⟨by omega, by omega, d, rfl, h3⟩
/-- What a program has that is small. -/
structure ShP (p : Pg) : Prop where
  vars : p.vars.length ≤ 1000
  arrs : p.arrays.length ≤ 1000
  funs : p.funcs.length ≤ 1000
  fn : ∀ f ∈ p.funcs, f.params.length ≤ 1000 ∧ f.locals.length ≤ 1000 ∧ f.body.length ≤ 1000 ∧ cnSs f.body ≤ 1000 ∧ ∀ x ∈ f.body, shrS 39 x
theorem foldF : ∀ (l : List Fu) (a : Int), a ≤ 1000 → 0 < l.foldl stepF a → 0 < a ∧ ∀ f ∈ l, f.params.length ≤ 1000 ∧ f.locals.length ≤ 1000 ∧ f.body.length ≤ 1000 ∧ cnSs f.body ≤ 1000 ∧ ∀ x ∈ f.body, shrS 39 x
  | [], a, _, h => ⟨h, by simp⟩
  | f :: l, a, ha, h => by
    rw [List.foldl_cons] at h
    by_cases h0 : 0 < a
    · by_cases h1 : stepF a f ≤ 1000
      · obtain ⟨q1, q2⟩ := foldF l _ h1 h
        refine ⟨h0, fun g hg => ?_⟩
        rcases List.mem_cons.1 hg with rfl | hg
        · unfold stepF at q1
          rw [if_pos h0] at q1
          split at q1
          · obtain ⟨f1, f2, d, e, f3⟩ := fewS_cn 40 g.body _ (by omega) q1
            obtain rfl : d = 39 := by omega
            exact ⟨by omega, by omega, f2, by omega, f3⟩
          · exfalso; omega
        · exact q2 g hg
      · exfalso
        unfold stepF at h1
        rw [if_pos h0] at h1
        split at h1
        · rename_i hp
          obtain ⟨f1, f2, d, e, f3⟩ := fewS_cn 40 f.body _ (by omega) (show 0 < fewS 40 f.body (a - f.params.length - f.locals.length) by omega)
          omega
        · omega
    · exfalso
      have hst : stepF a f = a := by unfold stepF; rw [if_neg h0]
      rw [hst] at h
      exact h0 (foldF l a ha h).1
theorem fewP_sh {p : Pg} (h : 0 < fewP p 100) : ShP p := by
  unfold fewP at h
  obtain ⟨h1, h2⟩ := foldF p.funcs _ (by omega) h
  exact ⟨by omega, by omega, by omega, h2⟩
end Go.Proofs.YtddggjmfplohkaaDoor
