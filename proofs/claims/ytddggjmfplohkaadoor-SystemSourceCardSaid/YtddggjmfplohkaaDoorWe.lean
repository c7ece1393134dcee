import Derived.Test.YtddggjmfplohkaaDoorWb
import Derived.Test.YtddggjmfplohkaaDoorRr
/- The tokens of a printed expression are read as the expression, in plain Lean. -/
namespace Go.Proofs.YtddggjmfplohkaaDoor
open Go Go.RowKit
/-- From a place on these tokens stand. -/
def AtT (l : List Tk) : Nat → List Tk → Prop
  | _, [] => True
  | i, t :: ts => (∃ t', l[i]? = some t' ∧ stT t' = t) ∧ AtT l (i + 1) ts
theorem at_app {l : List Tk} : ∀ {a b : List Tk} {i : Nat}, AtT l i (a ++ b) → AtT l i a ∧ AtT l (i + a.length) b
  | [], b, i, h => ⟨trivial, h⟩
  | x :: a, b, i, h => by
    obtain ⟨h1, h2⟩ := h
    obtain ⟨h3, h4⟩ := at_app h2
    refine ⟨⟨h1, h3⟩, ?_⟩
    rw [List.length_cons, show i + (a.length + 1) = i + 1 + a.length by omega]
    exact h4
theorem at_le {l : List Tk} : ∀ {a : List Tk} {i : Nat}, AtT l i a → a ≠ [] → i + a.length ≤ l.length
  | [], _, _, h => absurd rfl h
  | [x], i, h, _ => by
    obtain ⟨⟨t', h1, -⟩, -⟩ := h
    have := (List.getElem?_eq_some_iff.1 h1).1
    simp only [List.length_cons, List.length_nil]
    omega
  | x :: y :: a, i, h, _ => by
    have := at_le h.2 (by simp)
    simp only [List.length_cons] at this ⊢
    omega
theorem at_S {l : List Tk} {i : Nat} {s : ByteArray} {ts : List Tk} (h : AtT l i (tS s :: ts)) : peekE l i = s ∧ kindE l i = 4 := by
  obtain ⟨⟨t', h1, h2⟩, -⟩ := h
  obtain ⟨k, x, n, a⟩ := t'
  injection h2 with e1 e2 e3
  subst e1 e2
  unfold peekE kindE
  rw [h1]
  simp
theorem at_W {l : List Tk} {i : Nat} {s : ByteArray} {ts : List Tk} (h : AtT l i (tW s :: ts)) : peekE l i = s ∧ kindE l i = 3 := by
  obtain ⟨⟨t', h1, h2⟩, -⟩ := h
  obtain ⟨k, x, n, a⟩ := t'
  injection h2 with e1 e2 e3
  subst e1 e2
  unfold peekE kindE
  rw [h1]
  simp
theorem at_N {l : List Tk} {i : Nat} {s : ByteArray} {ts : List Tk} (h : AtT l i (tN s :: ts)) : peekE l i = ByteArray.empty ∧ kindE l i = 1 ∧ ∃ t, takeE l i 1 = some (t, i + 1) ∧ t.text = s := by
  obtain ⟨⟨t', h1, h2⟩, -⟩ := h
  obtain ⟨k, x, n, a⟩ := t'
  injection h2 with e1 e2 e3
  subst e1 e2
  unfold peekE kindE takeE
  rw [h1]
  exact ⟨rfl, rfl, _, rfl, rfl⟩
theorem at_D {l : List Tk} {i : Nat} {m : Nat} {ts : List Tk} (h : AtT l i (tD m :: ts)) : peekE l i = ByteArray.empty ∧ kindE l i = 2 ∧ ∃ t, takeE l i 2 = some (t, i + 1) ∧ t.num = UInt32.ofNat m := by
  obtain ⟨⟨t', h1, h2⟩, -⟩ := h
  obtain ⟨k, x, n, a⟩ := t'
  injection h2 with e1 e2 e3
  subst e1 e3
  unfold peekE kindE takeE
  rw [h1]
  exact ⟨rfl, rfl, _, rfl, rfl⟩
theorem must1 {l : List Tk} {i : Nat} {s : ByteArray} (h : peekE l i = s) : mustE l [s] i = some (i + 1) := by
  rw [mustE, if_pos h]
  rfl
theorem must2 {l : List Tk} {i : Nat} {s t : ByteArray} (h : peekE l i = s) (h2 : peekE l (i + 1) = t) : mustE l [s, t] i = some (i + 2) := by
  rw [mustE, if_pos h]
  exact must1 h2
theorem sign_sg {k o : Int} (hb : binK k o) : (signE (sgE k o)).1 = k ∧ (signE (sgE k o)).2.1 = o ∧ 1 ≤ (signE (sgE k o)).2.2 := by
  rcases hb with ⟨rfl, h1, h2⟩ | ⟨rfl, rfl⟩ | ⟨rfl, rfl⟩
  · have : o = 4 ∨ o = 5 ∨ o = 6 ∨ o = 7 ∨ o = 8 ∨ o = 9 ∨ o = 10 ∨ o = 11 ∨ o = 12 ∨ o = 13 ∨ o = 14 ∨ o = 15 := by omega
    rcases this with rfl | rfl | rfl | rfl | rfl | rfl | rfl | rfl | rfl | rfl | rfl | rfl <;> decide
  · decide
  · decide
/-- What may stand behind an atom. -/
def nxt (l : List Tk) (j : Nat) : Prop := peekE l j ≠ (⟨#[91]⟩ : ByteArray) ∧ peekE l j ≠ (⟨#[40]⟩ : ByteArray)
theorem nxt_of {l : List Tk} {j : Nat} {s : ByteArray} (h : peekE l j = s) (hs : s ≠ (⟨#[91]⟩ : ByteArray) ∧ s ≠ (⟨#[40]⟩ : ByteArray)) : nxt l j := by
  unfold nxt
  rw [h]
  exact hs
theorem sg_nxt {k o : Int} (hb : binK k o) : sgE k o ≠ (⟨#[91]⟩ : ByteArray) ∧ sgE k o ≠ (⟨#[40]⟩ : ByteArray) := by
  rcases hb with ⟨rfl, h1, h2⟩ | ⟨rfl, rfl⟩ | ⟨rfl, rfl⟩
  · have : o = 4 ∨ o = 5 ∨ o = 6 ∨ o = 7 ∨ o = 8 ∨ o = 9 ∨ o = 10 ∨ o = 11 ∨ o = 12 ∨ o = 13 ∨ o = 14 ∨ o = 15 := by omega
    rcases this with rfl | rfl | rfl | rfl | rfl | rfl | rfl | rfl | rfl | rfl | rfl | rfl <;> decide
  · decide
  · decide
def PaE (e : Ex) : Prop := ∀ l i f, AtT l i (tkE e) → nxt l (i + (tkE e).length) → 4 * (tkE e).length ≤ f → atomE l f i = some (e, i + (tkE e).length)
theorem expr_of {e : Ex} (h : PaE e) {l : List Tk} {i f : Nat} {least : Int} (ha : AtT l i (tkE e)) (hn : nxt l (i + (tkE e).length)) (hs : (signE (peekE l (i + (tkE e).length))).2.2 < least) (hf : 4 * (tkE e).length + 2 ≤ f) : exprE l f i least = some (e, i + (tkE e).length) := by
  cases f with
  | zero => omega
  | succ f =>
    rw [exprE, h l i f ha hn (by omega)]
    cases f with
    | zero => omega
    | succ f =>
      simp only
      rw [loopE, if_pos hs]
/-- .. ahead of one of the signs that end an expression. -/
theorem expr_end {e : Ex} (h : PaE e) {l : List Tk} {i f : Nat} {s : ByteArray} (ha : AtT l i (tkE e)) (hp : peekE l (i + (tkE e).length) = s) (hs : s ∈ ([⟨#[93]⟩, ⟨#[41]⟩, ⟨#[44]⟩, ⟨#[59]⟩] : List ByteArray)) (hf : 4 * (tkE e).length + 2 ≤ f) : exprE l f i 1 = some (e, i + (tkE e).length) := by
  simp only [List.mem_cons, List.not_mem_nil, or_false] at hs
  refine expr_of h ha (nxt_of hp ?_) ?_ hf
  · rcases hs with rfl | rfl | rfl | rfl <;> decide
  · rw [hp]
    rcases hs with rfl | rfl | rfl | rfl <;> decide
theorem tkEs_hd {l : List Tk} {i : Nat} {s : ByteArray} {ts : List Tk} : ∀ {es : List Ex}, AtT l i (tkEs true es ++ tS s :: ts) → peekE l i = (⟨#[44]⟩ : ByteArray) ∨ (es = [] ∧ peekE l i = s)
  | [], h => .inr ⟨rfl, (at_S h).1⟩
  | e :: es, h => by
    rw [tkEs, if_pos rfl] at h
    exact .inl (at_S h).1
theorem argT_of {l : List Tk} {ts : List Tk} : ∀ (es : List Ex), (∀ e ∈ es, PaE e) → ∀ (i f : Nat), AtT l i (tkEs true es ++ tS ⟨#[41]⟩ :: ts) → 4 * (tkEs true es).length + 2 ≤ f → argTE l f i = some (es, i + (tkEs true es).length)
  | [], _, i, f, h, hf => by
    cases f with
    | zero => omega
    | succ f =>
      have hp := (at_S (show AtT l i (tS ⟨#[41]⟩ :: ts) from h)).1
      rw [argTE, hp, if_neg (by decide)]
      rfl
  | e :: es, hes, i, f, h, hf => by
    cases f with
    | zero => omega
    | succ f =>
      rw [tkEs, if_pos rfl] at h hf ⊢
      simp only [List.cons_append, List.nil_append, List.append_assoc, List.length_cons, List.length_append] at h hf ⊢
      have hp := (at_S h).1
      obtain ⟨h1, h2⟩ := at_app h.2
      have hq : peekE l (i + 1 + (tkE e).length) = (⟨#[44]⟩ : ByteArray) ∨ peekE l (i + 1 + (tkE e).length) = (⟨#[41]⟩ : ByteArray) := by
        rcases tkEs_hd h2 with h | h
        · exact .inl h
        · exact .inr h.2
      have he : exprE l f (i + 1) 1 = some (e, i + 1 + (tkE e).length) := by
        rcases hq with hq | hq
        · exact expr_end (hes e (by simp)) h1 hq (by simp) (by omega)
        · exact expr_end (hes e (by simp)) h1 hq (by simp) (by omega)
      have ht := argT_of es (fun x hx => hes x (by simp [hx])) (i + 1 + (tkE e).length) f h2 (by omega)
      rw [argTE, if_pos hp, he]
      simp only
      rw [ht]
      simp only
      congr 2
      omega
theorem tk_ne : ∀ (e : Ex) {d : Nat}, RE d e → tkE e ≠ []
  | .mk k o n s ks, d, h => by
    cases d with
    | zero => exact h.elim
    | succ d =>
      rcases h.2 with ⟨rfl, rfl, rfl, rfl⟩ | ⟨rfl, rfl, rfl, h1, rfl⟩ | ⟨rfl, rfl, rfl, h1, a, rfl⟩ | ⟨rfl, rfl, rfl, h1, h2⟩ | ⟨rfl, rfl, rfl, rfl, rfl⟩ | ⟨rfl, rfl, rfl, rfl, a, rfl⟩ | ⟨hb, rfl, rfl, a, b, rfl⟩
      · simp [tkE]
      · simp [tkE]
      · simp [tkE]
      · simp [tkE]
      · simp [tkE]
      · simp [tkE]
      · rw [tk_bin hb]; simp
/-- The first token of an expression is no closing bracket. -/
theorem hd_E {l : List Tk} {i : Nat} {e : Ex} {d : Nat} (h : RE d e) {ts : List Tk} (ha : AtT l i (tkE e ++ ts)) : peekE l i ≠ (⟨#[41]⟩ : ByteArray) ∧ peekE l i ≠ (⟨#[59]⟩ : ByteArray) := by
  obtain ⟨k, o, n, s, ks⟩ := e
  cases d with
  | zero => exact h.elim
  | succ d =>
    rcases h.2 with ⟨rfl, rfl, rfl, rfl⟩ | ⟨rfl, rfl, rfl, h1, rfl⟩ | ⟨rfl, rfl, rfl, h1, a, rfl⟩ | ⟨rfl, rfl, rfl, h1, h2⟩ | ⟨rfl, rfl, rfl, rfl, rfl⟩ | ⟨rfl, rfl, rfl, rfl, a, rfl⟩ | ⟨hb, rfl, rfl, a, b, rfl⟩
    · rw [(at_D (show AtT l i (tD n.toNat :: ts) from ha)).1]; decide
    · rw [(at_N (show AtT l i (tN s :: ts) from ha)).1]; decide
    · rw [(at_N (show AtT l i (tN s :: _) from ha)).1]; decide
    · rw [(at_N (show AtT l i (tN s :: _) from ha)).1]; decide
    · rw [(at_W (show AtT l i (tW ⟨#[103, 101, 116]⟩ :: _) from ha)).1]; decide
    · rw [(at_S (show AtT l i (tS ⟨#[33]⟩ :: _) from ha)).1]; decide
    · rw [tk_bin hb] at ha
      rw [(at_S (show AtT l i (tS ⟨#[40]⟩ :: _) from ha)).1]; decide
theorem args_of {l : List Tk} {ts : List Tk} {es : List Ex} (hes : ∀ e ∈ es, PaE e ∧ ∃ d, RE d e) {i f : Nat} (h : AtT l i (tkEs false es ++ tS ⟨#[41]⟩ :: ts)) (hf : 4 * (tkEs false es).length + 6 ≤ f) : argsE l f i = some (es, i + (tkEs false es).length + 1) := by
  cases f with
  | zero => omega
  | succ f =>
    cases es with
    | nil =>
      have hp := (at_S (show AtT l i (tS ⟨#[41]⟩ :: ts) from h)).1
      rw [argsE, if_pos hp]
      rfl
    | cons e es =>
      obtain ⟨he, d, hd⟩ := hes e (by simp)
      rw [tkEs, if_neg (by decide)] at h hf ⊢
      simp only [List.nil_append, List.append_assoc, List.length_append] at h hf ⊢
      have hp := (hd_E hd h).1
      obtain ⟨h1, h2⟩ := at_app h
      have hq : peekE l (i + (tkE e).length) = (⟨#[44]⟩ : ByteArray) ∨ peekE l (i + (tkE e).length) = (⟨#[41]⟩ : ByteArray) := by
        rcases tkEs_hd h2 with h | h
        · exact .inl h
        · exact .inr h.2
      have hx : exprE l f i 1 = some (e, i + (tkE e).length) := by
        rcases hq with hq | hq
        · exact expr_end he h1 hq (by simp) (by omega)
        · exact expr_end he h1 hq (by simp) (by omega)
      have ht := argT_of es (fun x hx => (hes x (by simp [hx])).1) (i + (tkE e).length) f h2 (by omega)
      have hm := must1 (at_S (at_app h2).2).1
      rw [argsE, if_neg hp, hx]
      simp only
      rw [ht]
      simp only
      rw [hm]
      simp only
      congr 2
      omega
theorem atom_all : ∀ (d : Nat) (e : Ex), RE d e → PaE e
  | 0, _, h => h.elim
  | d + 1, .mk k o n s ks, h => by
    intro l i f ha hn hf
    have ih : ∀ a ∈ ks, PaE a := fun a ha => atom_all d a (h.1 a ha)
    have hre := h.1
    rcases h.2 with ⟨rfl, rfl, rfl, rfl⟩ | ⟨rfl, rfl, rfl, h1, rfl⟩ | ⟨rfl, rfl, rfl, h1, a, rfl⟩ | ⟨rfl, rfl, rfl, h1, h2⟩ | ⟨rfl, rfl, rfl, rfl, rfl⟩ | ⟨rfl, rfl, rfl, rfl, a, rfl⟩ | ⟨hb, rfl, rfl, a, b, rfl⟩
    · cases f with
      | zero => exact absurd hf (by show ¬ 4 * 1 ≤ 0; omega)
      | succ f =>
        obtain ⟨-, q2, t, q3, q4⟩ := at_D (show AtT l i (tD n.toNat :: []) from ha)
        rw [atomE, if_pos q2, q3]
        simp only
        rw [q4, UInt32.ofNat_toNat]
        rfl
    · cases f with
      | zero => exact absurd hf (by show ¬ 4 * 1 ≤ 0; omega)
      | succ f =>
        obtain ⟨q1, q2, t, q3, q4⟩ := at_N (show AtT l i (tN s :: []) from ha)
        have hn : nxt l (i + 1) := hn
        rw [atomE, q2, if_neg (by decide), q1, if_neg (by decide), if_neg (by decide), if_neg (by decide), q3]
        simp only
        rw [if_neg hn.1, if_neg hn.2, q4]
        rfl
    · have e2 : tkE (.mk 3 0 0 s [a]) = tN s :: tS ⟨#[91]⟩ :: (tkE a ++ [tS ⟨#[93]⟩]) := by
        rw [show tkE (.mk 3 0 0 s [a]) = tN s :: tS ⟨#[91]⟩ :: (tkEs false [a] ++ [tS ⟨#[93]⟩]) from rfl, tk_e1]
      rw [e2] at ha hf ⊢
      simp only [List.length_cons, List.length_append, List.length_nil] at hf ⊢
      cases f with
      | zero => omega
      | succ f =>
        obtain ⟨q1, q2, t, q3, q4⟩ := at_N ha
        have p1 := (at_S ha.2).1
        obtain ⟨h3, h4⟩ := at_app ha.2.2
        have p2 := (at_S h4).1
        have hx := expr_end (f := f) (ih a (by simp)) h3 p2 (by simp) (by omega)
        rw [atomE, q2, if_neg (by decide), q1, if_neg (by decide), if_neg (by decide), if_neg (by decide), q3]
        simp only
        rw [if_pos p1, hx]
        simp only
        rw [must1 p2, q4]
        simp only
        congr 2
        omega
    · have e2 : tkE (.mk 4 0 0 s ks) = tN s :: tS ⟨#[40]⟩ :: (tkEs false ks ++ [tS ⟨#[41]⟩]) := rfl
      rw [e2] at ha hf ⊢
      simp only [List.length_cons, List.length_append, List.length_nil] at hf ⊢
      cases f with
      | zero => omega
      | succ f =>
        obtain ⟨q1, q2, t, q3, q4⟩ := at_N ha
        have p1 := (at_S ha.2).1
        have hx := args_of (f := f) (fun e he => ⟨ih e he, d, hre e he⟩) ha.2.2 (by omega)
        rw [atomE, q2, if_neg (by decide), q1, if_neg (by decide), if_neg (by decide), if_neg (by decide), q3]
        simp only
        rw [p1, if_neg (by decide), if_pos rfl, hx, q4]
        simp only
        congr 2
        omega
    · cases f with
      | zero => exact absurd hf (by show ¬ 4 * 3 ≤ 0; omega)
      | succ f =>
        have ha : AtT l i [tW ⟨#[103, 101, 116]⟩, tS ⟨#[40]⟩, tS ⟨#[41]⟩] := ha
        obtain ⟨p1, p2⟩ := at_W ha
        have p3 := (at_S ha.2).1
        have p4 := (at_S ha.2.2).1
        rw [atomE, p2, if_neg (by decide), if_pos p1, must2 p3 p4]
        rfl
    · have e2 : tkE (.mk 7 0 0 ByteArray.empty [a]) = tS ⟨#[33]⟩ :: tkE a := by
        rw [show tkE (.mk 7 0 0 ByteArray.empty [a]) = tS ⟨#[33]⟩ :: tkEs false [a] from rfl, tk_e1]
      rw [e2] at ha hf hn ⊢
      simp only [List.length_cons] at hf hn ⊢
      cases f with
      | zero => omega
      | succ f =>
        obtain ⟨p1, p2⟩ := at_S ha
        have hx := ih a (by simp) l (i + 1) f ha.2 (by rw [show i + 1 + (tkE a).length = i + ((tkE a).length + 1) by omega]; exact hn) (by omega)
        rw [atomE, p2, if_neg (by decide), p1, if_neg (by decide), if_neg (by decide), if_pos rfl, hx]
        simp only
        congr 2
        omega
    · rw [tk_bin hb] at ha hf ⊢
      simp only [List.length_cons, List.length_append, List.length_nil] at hf ⊢
      cases f with
      | zero => omega
      | succ f =>
        obtain ⟨p1, p2⟩ := at_S ha
        obtain ⟨h3, h4⟩ := at_app ha.2
        have p3 := (at_S h4).1
        obtain ⟨h5, h6⟩ := at_app h4.2
        have p4 := (at_S h6).1
        obtain ⟨s1, s2, s3⟩ := sign_sg hb
        have na := tk_ne a (hre a (by simp))
        have la : 0 < (tkE a).length := List.length_pos_iff.2 na
        have hx : exprE l f (i + 1) 1 = some (.mk k o 0 ByteArray.empty [a, b], i + 1 + (tkE a).length + 1 + (tkE b).length) := by
          obtain ⟨f, rfl⟩ : ∃ g, f = g + 3 := ⟨f - 3, by omega⟩
          have hA := ih a (by simp) l (i + 1) (f + 2) h3 (nxt_of p3 (sg_nxt hb)) (by omega)
          have hz : (signE (⟨#[41]⟩ : ByteArray)).2.2 = 0 := by decide
          have hlt : (signE (peekE l (i + 1 + (tkE a).length + 1 + (tkE b).length))).2.2 < (signE (sgE k o)).2.2 + 1 := by
            rw [p4, hz]
            omega
          have hB := expr_of (f := f + 1) (least := (signE (sgE k o)).2.2 + 1) (ih b (by simp)) h5 (nxt_of p4 (by decide)) hlt (by omega)
          rw [exprE, hA]
          simp only
          rw [loopE, p3, if_neg (by omega), hB]
          simp only
          rw [loopE, p4, if_pos (by decide), s1, s2]
        rw [atomE, p2, if_neg (by decide), p1, if_neg (by decide), if_pos rfl, hx]
        simp only
        rw [must1 p4]
        simp only
        congr 2
        omega
end Go.Proofs.YtddggjmfplohkaaDoor

/- The tokens of a printed program are read as the program, in plain Lean. -/
namespace Go.Proofs.YtddggjmfplohkaaDoor
open Go Go.RowKit
/-- With the reader's own fuel. -/
theorem expr_fu {e : Ex} (h : PaE e) {l : List Tk} {i : Nat} {s : ByteArray} (hne : tkE e ≠ []) (ha : AtT l i (tkE e)) (hp : peekE l (i + (tkE e).length) = s) (hs : s ∈ ([⟨#[93]⟩, ⟨#[41]⟩, ⟨#[44]⟩, ⟨#[59]⟩] : List ByteArray)) : exprE l (fuE l) i 1 = some (e, i + (tkE e).length) := by
  have := at_le ha hne
  exact expr_end h ha hp hs (by unfold fuE; omega)
theorem round_of {e : Ex} {d : Nat} (hd : RE d e) {l : List Tk} {i : Nat} {ts : List Tk} (ha : AtT l i (tS ⟨#[40]⟩ :: (tkE e ++ tS ⟨#[41]⟩ :: ts))) : roundE l i = some (e, i + (tkE e).length + 2) := by
  obtain ⟨h1, h2⟩ := at_app ha.2
  have p2 := (at_S h2).1
  unfold roundE
  rw [must1 (at_S ha).1]
  simp only
  rw [expr_fu (atom_all d e hd) (tk_ne e hd) h1 p2 (by simp)]
  simp only
  rw [must1 p2]
  simp only
  congr 2
  omega
def PaS (x : Sm) : Prop := ∀ l i f, AtT l i (tkS x) → peekE l (i + (tkS x).length) ≠ (⟨#[101, 108, 115, 101]⟩ : ByteArray) → 3 * (tkS x).length ≤ f → stmtE l f i = some (x, i + (tkS x).length)
/-- What a statement begins with. -/
theorem hd_S {l : List Tk} {i : Nat} {x : Sm} {d : Nat} (h : RS d x) {ts : List Tk} (ha : AtT l i (tkS x ++ ts)) : peekE l i ≠ (⟨#[101, 108, 115, 101]⟩ : ByteArray) ∧ peekE l i ≠ (⟨#[125]⟩ : ByteArray) ∧ peekE l i ≠ (⟨#[118, 97, 114]⟩ : ByteArray) := by
  obtain ⟨k, s, es, t, f⟩ := x
  cases d with
  | zero => exact h.elim
  | succ d =>
    rcases h.2.2.2 with ⟨rfl, h1, ⟨a, rfl⟩, rfl, rfl⟩ | ⟨rfl, h1, ⟨a, b, rfl⟩, rfl, rfl⟩ | ⟨rfl, rfl, ⟨a, rfl⟩, rfl, rfl⟩ | ⟨rfl, rfl, ⟨a, rfl⟩⟩ | ⟨rfl, rfl, ⟨a, rfl⟩, rfl⟩ | ⟨rfl, h1, h2, rfl, rfl⟩ | ⟨rfl, rfl, h2, rfl, rfl⟩
    · rw [(at_N (show AtT l i (tN s :: _) from ha)).1]; decide
    · rw [(at_N (show AtT l i (tN s :: _) from ha)).1]; decide
    · rw [(at_W (show AtT l i (tW ⟨#[112, 117, 116]⟩ :: _) from ha)).1]; decide
    · rw [(at_W (show AtT l i (tW ⟨#[105, 102]⟩ :: _) from ha)).1]; decide
    · rw [(at_W (show AtT l i (tW ⟨#[119, 104, 105, 108, 101]⟩ :: _) from ha)).1]; decide
    · rw [(at_N (show AtT l i (tN s :: _) from ha)).1]; decide
    · rw [(at_W (show AtT l i (tW ⟨#[114, 101, 116, 117, 114, 110]⟩ :: _) from ha)).1]; decide
theorem hd_Ss {l : List Tk} {ts : List Tk} {t : List Sm} {d : Nat} (h : ∀ x ∈ t, RS d x) {i : Nat} (ha : AtT l i (tkSs t ++ tS ⟨#[125]⟩ :: ts)) : peekE l i ≠ (⟨#[101, 108, 115, 101]⟩ : ByteArray) ∧ peekE l i ≠ (⟨#[118, 97, 114]⟩ : ByteArray) := by
  cases t with
  | nil => rw [(at_S (show AtT l i (tS ⟨#[125]⟩ :: ts) from ha)).1]; decide
  | cons x t =>
    rw [tkSs, List.append_assoc] at ha
    have := hd_S (h x (by simp)) ha
    exact ⟨this.1, this.2.2⟩
theorem tkS_ne {x : Sm} {d : Nat} (h : RS d x) : 0 < (tkS x).length := by
  obtain ⟨k, s, es, t, f⟩ := x
  cases d with
  | zero => exact h.elim
  | succ d =>
    rcases h.2.2.2 with ⟨rfl, h1, ⟨a, rfl⟩, rfl, rfl⟩ | ⟨rfl, h1, ⟨a, b, rfl⟩, rfl, rfl⟩ | ⟨rfl, rfl, ⟨a, rfl⟩, rfl, rfl⟩ | ⟨rfl, rfl, ⟨a, rfl⟩⟩ | ⟨rfl, rfl, ⟨a, rfl⟩, rfl⟩ | ⟨rfl, h1, h2, rfl, rfl⟩ | ⟨rfl, rfl, h2, rfl, rfl⟩ <;> simp [tkS]
theorem stmts_of {l : List Tk} {ts : List Tk} {d : Nat} : ∀ (t : List Sm), (∀ x ∈ t, PaS x ∧ RS d x) → ∀ (i f : Nat), AtT l i (tkSs t ++ tS ⟨#[125]⟩ :: ts) → 3 * (tkSs t).length + 1 ≤ f → stmtsE l f i = some (t, i + (tkSs t).length + 1)
  | [], _, i, f, h, hf => by
    cases f with
    | zero => omega
    | succ f =>
      have hp := (at_S (show AtT l i (tS ⟨#[125]⟩ :: ts) from h)).1
      rw [stmtsE, if_pos hp]
      rfl
  | x :: t, ht, i, f, h, hf => by
    cases f with
    | zero => omega
    | succ f =>
      rw [tkSs] at h hf ⊢
      simp only [List.append_assoc, List.length_append] at h hf ⊢
      obtain ⟨h1, h2⟩ := ht x (by simp)
      have hp := (hd_S h2 h).2.1
      obtain ⟨h3, h4⟩ := at_app h
      have hq := (hd_Ss (d := d) (fun y hy => (ht y (by simp [hy])).2) h4).1
      have hne := tkS_ne h2
      rw [stmtsE, if_neg hp, h1 l i f h3 hq (by omega)]
      simp only
      rw [stmts_of t (fun y hy => ht y (by simp [hy])) _ f h4 (by omega)]
      simp only
      congr 2
      omega
theorem body_of {l : List Tk} {ts : List Tk} {d : Nat} {t : List Sm} (ht : ∀ x ∈ t, PaS x ∧ RS d x) {i f : Nat} (h : AtT l i (tS ⟨#[123]⟩ :: (tkSs t ++ tS ⟨#[125]⟩ :: ts))) (hf : 3 * (tkSs t).length + 2 ≤ f) : bodyE l f i = some (t, i + (tkSs t).length + 2) := by
  cases f with
  | zero => omega
  | succ f =>
    rw [bodyE, must1 (at_S h).1]
    simp only
    rw [stmts_of t ht _ f h.2 (by omega)]
    congr 2
    omega
theorem named_of {l : List Tk} {i j : Nat} {s : ByteArray} {k : Int} {es : List Ex} {ts : List Tk} (ha : AtT l i (tN s :: ts)) (hn : namE l (i + 1) = some ((k, es), j)) (hp : peekE l j = (⟨#[59]⟩ : ByteArray)) : namedE l i = some (.mk k s es [] [], j + 1) := by
  obtain ⟨-, -, t, q3, q4⟩ := at_N ha
  unfold namedE
  rw [q3]
  simp only
  rw [hn]
  simp only
  rw [must1 hp, q4]
theorem stmt_all : ∀ (d : Nat) (x : Sm), RS d x → PaS x
  | 0, _, h => h.elim
  | d + 1, .mk k s es t f, h => by
    intro l i fu ha hn hf
    have iE : ∀ a ∈ es, PaE a ∧ tkE a ≠ [] := fun a ha => ⟨atom_all d a (h.1 a ha), tk_ne a (h.1 a ha)⟩
    have rE := h.1
    have iT : ∀ a ∈ t, PaS a ∧ RS d a := fun a ha => ⟨stmt_all d a (h.2.1 a ha), h.2.1 a ha⟩
    have iF : ∀ a ∈ f, PaS a ∧ RS d a := fun a ha => ⟨stmt_all d a (h.2.2.1 a ha), h.2.2.1 a ha⟩
    have key : tkS (.mk k s es t f) ≠ [] := List.length_pos_iff.1 (tkS_ne h)
    have hlen := at_le ha key
    have hpos := tkS_ne h
    cases fu with
    | zero => omega
    | succ fu =>
      clear key hpos
      rcases h.2.2.2 with ⟨rfl, h1, ⟨a, rfl⟩, rfl, rfl⟩ | ⟨rfl, h1, ⟨a, b, rfl⟩, rfl, rfl⟩ | ⟨rfl, rfl, ⟨a, rfl⟩, rfl, rfl⟩ | ⟨rfl, rfl, ⟨a, rfl⟩⟩ | ⟨rfl, rfl, ⟨a, rfl⟩, rfl⟩ | ⟨rfl, h1, h2, rfl, rfl⟩ | ⟨rfl, rfl, h2, rfl, rfl⟩
      · have e2 : tkS (.mk 1 s [a] [] []) = tN s :: tS ⟨#[61]⟩ :: (tkE a ++ [tS ⟨#[59]⟩]) := by
          rw [show tkS (.mk 1 s [a] [] []) = tN s :: tS ⟨#[61]⟩ :: (tkEs false [a] ++ [tS ⟨#[59]⟩]) from rfl, tk_e1]
        rw [e2] at ha hf hlen ⊢
        simp only [List.length_cons, List.length_append, List.length_nil] at hf hlen ⊢
        have p0 := (at_N ha).1
        have p1 := (at_S ha.2).1
        obtain ⟨h3, h4⟩ := at_app ha.2.2
        have p2 := (at_S h4).1
        have hx := expr_fu (iE a (by simp)).1 (iE a (by simp)).2 h3 p2 (by simp)
        rw [stmtE, p0, if_neg (by decide), if_neg (by decide), if_neg (by decide), if_neg (by decide)]
        have hnm : namE l (i + 1) = some ((1, [a]), i + 1 + 1 + (tkE a).length) := by
          unfold namE
          rw [if_pos p1, hx]
        rw [named_of ha hnm p2]
        congr 2
        omega
      · have e2 : tkS (.mk 2 s [a, b] [] []) = tN s :: tS ⟨#[91]⟩ :: (tkE a ++ tS ⟨#[93]⟩ :: tS ⟨#[61]⟩ :: (tkE b ++ [tS ⟨#[59]⟩])) := by
          rw [show tkS (.mk 2 s [a, b] [] []) = tN s :: tS ⟨#[91]⟩ :: (tkE a ++ tS ⟨#[93]⟩ :: tS ⟨#[61]⟩ :: (tkEs false [b] ++ [tS ⟨#[59]⟩])) from rfl, tk_e1]
        rw [e2] at ha hf hlen ⊢
        simp only [List.length_cons, List.length_append, List.length_nil] at hf hlen ⊢
        have p0 := (at_N ha).1
        have p1 := (at_S ha.2).1
        obtain ⟨h3, h4⟩ := at_app ha.2.2
        have p2 := (at_S h4).1
        have p3 := (at_S h4.2).1
        obtain ⟨h5, h6⟩ := at_app h4.2.2
        have p4 := (at_S h6).1
        have hx := expr_fu (iE a (by simp)).1 (iE a (by simp)).2 h3 p2 (by simp)
        have hy := expr_fu (iE b (by simp)).1 (iE b (by simp)).2 h5 p4 (by simp)
        rw [stmtE, p0, if_neg (by decide), if_neg (by decide), if_neg (by decide), if_neg (by decide)]
        have hnm : namE l (i + 1) = some ((2, [a, b]), i + 1 + 1 + (tkE a).length + 1 + 1 + (tkE b).length) := by
          unfold namE
          rw [p1, if_neg (by decide), if_pos rfl, hx]
          simp only
          rw [must2 p2 p3]
          simp only
          rw [show i + 1 + 1 + (tkE a).length + 2 = i + 1 + 1 + (tkE a).length + 1 + 1 by omega, hy]
        rw [named_of ha hnm p4]
        congr 2
        omega
      · have e2 : tkS (.mk 3 ByteArray.empty [a] [] []) = tW ⟨#[112, 117, 116]⟩ :: tS ⟨#[40]⟩ :: (tkE a ++ [tS ⟨#[41]⟩, tS ⟨#[59]⟩]) := by
          rw [show tkS (.mk 3 ByteArray.empty [a] [] []) = tW ⟨#[112, 117, 116]⟩ :: tS ⟨#[40]⟩ :: (tkEs false [a] ++ [tS ⟨#[41]⟩, tS ⟨#[59]⟩]) from rfl, tk_e1]
        rw [e2] at ha hf hlen ⊢
        simp only [List.length_cons, List.length_append, List.length_nil] at hf hlen ⊢
        have p0 := (at_W ha).1
        have hr := round_of (rE a (by simp)) ha.2
        have p2 := (at_S (at_app ha.2.2).2.2).1
        rw [stmtE, if_pos p0, hr]
        simp only
        rw [must1 (by rw [← p2]; congr 1; omega)]
        simp only
        congr 2
        omega
      · have e2 : tkS (.mk 4 ByteArray.empty [a] t f) = tW ⟨#[105, 102]⟩ :: tS ⟨#[40]⟩ :: (tkE a ++ tS ⟨#[41]⟩ :: tS ⟨#[123]⟩ :: (tkSs t ++ tS ⟨#[125]⟩ :: (if f.isEmpty = true then [] else tW ⟨#[101, 108, 115, 101]⟩ :: tS ⟨#[123]⟩ :: (tkSs f ++ [tS ⟨#[125]⟩])))) := by
          rw [show tkS (.mk 4 ByteArray.empty [a] t f) = tW ⟨#[105, 102]⟩ :: tS ⟨#[40]⟩ :: (tkEs false [a] ++ tS ⟨#[41]⟩ :: tS ⟨#[123]⟩ :: (tkSs t ++ tS ⟨#[125]⟩ :: (if f.isEmpty = true then [] else tW ⟨#[101, 108, 115, 101]⟩ :: tS ⟨#[123]⟩ :: (tkSs f ++ [tS ⟨#[125]⟩])))) from rfl, tk_e1]
        rw [e2] at ha hf hn hlen ⊢
        simp only [List.length_cons, List.length_append] at hf hn hlen ⊢
        have p0 := (at_W ha).1
        have hr := round_of (rE a (by simp)) ha.2
        have h4 := (at_app ha.2.2).2.2
        rw [show i + 1 + 1 + (tkE a).length + 1 = i + 1 + (tkE a).length + 2 by omega] at h4
        have hb := body_of (f := fu) iT h4 (by omega)
        have h5 := (at_app h4.2).2.2
        rw [stmtE, p0, if_neg (by decide), if_neg (by decide), if_pos rfl, hr]
        simp only
        rw [hb]
        simp only
        cases f with
        | nil =>
          simp only [List.isEmpty_nil, if_true, List.length_nil] at hn ⊢
          rw [show i + 1 + (tkE a).length + 2 + (tkSs t).length + 2 = i + ((tkE a).length + ((tkSs t).length + (0 + 1) + 1 + 1) + 1 + 1) by omega, if_neg hn]
        | cons x f =>
          simp only [List.isEmpty_cons, Bool.false_eq_true, if_false, List.length_cons, List.length_append, List.length_nil] at hf h5 ⊢
          have h6 : AtT l (i + 1 + (tkE a).length + 2 + (tkSs t).length + 2) (tW ⟨#[101, 108, 115, 101]⟩ :: tS ⟨#[123]⟩ :: (tkSs (x :: f) ++ [tS ⟨#[125]⟩])) := by
            rw [show i + 1 + (tkE a).length + 2 + (tkSs t).length + 2 = i + 1 + (tkE a).length + 2 + 1 + (tkSs t).length + 1 by omega]
            exact h5
          have hb2 := body_of (f := fu) iF h6.2 (by omega)
          rw [if_pos (at_W h6).1, hb2]
          simp only
          congr 2
          omega
      · have e2 : tkS (.mk 5 ByteArray.empty [a] t []) = tW ⟨#[119, 104, 105, 108, 101]⟩ :: tS ⟨#[40]⟩ :: (tkE a ++ tS ⟨#[41]⟩ :: tS ⟨#[123]⟩ :: (tkSs t ++ [tS ⟨#[125]⟩])) := by
          rw [show tkS (.mk 5 ByteArray.empty [a] t []) = tW ⟨#[119, 104, 105, 108, 101]⟩ :: tS ⟨#[40]⟩ :: (tkEs false [a] ++ tS ⟨#[41]⟩ :: tS ⟨#[123]⟩ :: (tkSs t ++ tS ⟨#[125]⟩ :: [])) from rfl, tk_e1]
        rw [e2] at ha hf hlen ⊢
        simp only [List.length_cons, List.length_append, List.length_nil] at hf hlen ⊢
        have p0 := (at_W ha).1
        have hr := round_of (rE a (by simp)) ha.2
        have h4 := (at_app ha.2.2).2.2
        rw [show i + 1 + 1 + (tkE a).length + 1 = i + 1 + (tkE a).length + 2 by omega] at h4
        have hb := body_of (f := fu) iT h4 (by omega)
        rw [stmtE, p0, if_neg (by decide), if_neg (by decide), if_neg (by decide), if_pos rfl, hr]
        simp only
        rw [hb]
        simp only
        congr 2
        omega
      · have e2 : tkS (.mk 6 s es [] []) = tN s :: tS ⟨#[40]⟩ :: (tkEs false es ++ [tS ⟨#[41]⟩, tS ⟨#[59]⟩]) := rfl
        rw [e2] at ha hf hlen ⊢
        simp only [List.length_cons, List.length_append, List.length_nil] at hf hlen ⊢
        have p0 := (at_N ha).1
        have p1 := (at_S ha.2).1
        obtain ⟨h3, h4⟩ := at_app ha.2.2
        have p2 := (at_S h4.2).1
        have hx := args_of (f := fuE l) (fun e he => ⟨(iE e he).1, d, rE e he⟩) ha.2.2 (by unfold fuE; omega)
        rw [stmtE, p0, if_neg (by decide), if_neg (by decide), if_neg (by decide), if_neg (by decide)]
        have hnm : namE l (i + 1) = some ((6, es), i + 1 + 1 + (tkEs false es).length + 1) := by
          unfold namE
          rw [p1, if_neg (by decide), if_neg (by decide), if_pos rfl, hx]
        rw [named_of ha hnm p2]
        congr 2
        omega
      · rcases h2 with rfl | ⟨a, rfl⟩
        · have ha : AtT l i [tW ⟨#[114, 101, 116, 117, 114, 110]⟩, tS ⟨#[59]⟩] := ha
          have p0 := (at_W ha).1
          have p1 := (at_S ha.2).1
          rw [stmtE, p0, if_neg (by decide), if_pos rfl, if_pos p1]
          rfl
        · have e2 : tkS (.mk 7 ByteArray.empty [a] [] []) = tW ⟨#[114, 101, 116, 117, 114, 110]⟩ :: (tkE a ++ [tS ⟨#[59]⟩]) := by
            rw [show tkS (.mk 7 ByteArray.empty [a] [] []) = tW ⟨#[114, 101, 116, 117, 114, 110]⟩ :: (tkEs false [a] ++ [tS ⟨#[59]⟩]) from rfl, tk_e1]
          rw [e2] at ha hf hlen ⊢
          simp only [List.length_cons, List.length_append, List.length_nil] at hf hlen ⊢
          have p0 := (at_W ha).1
          have hq := (hd_E (rE a (by simp)) ha.2).2
          obtain ⟨h3, h4⟩ := at_app ha.2
          have p2 := (at_S h4).1
          have hx := expr_fu (iE a (by simp)).1 (iE a (by simp)).2 h3 p2 (by simp)
          rw [stmtE, p0, if_neg (by decide), if_pos rfl, if_neg hq, hx]
          simp only
          rw [must1 p2]
          simp only
          congr 2
          omega
end Go.Proofs.YtddggjmfplohkaaDoor

/- A printed program is read as the program, in plain Lean. -/
namespace Go.Proofs.YtddggjmfplohkaaDoor
open Go Go.RowKit
theorem nmsT_of {l : List Tk} {s : ByteArray} {ts : List Tk} (hs : s ≠ (⟨#[44]⟩ : ByteArray)) : ∀ (ns : List ByteArray) (i f : Nat), AtT l i (tkM true ns ++ tS s :: ts) → ns.length + 1 ≤ f → nmsT l f i = some (ns, i + (tkM true ns).length)
  | [], i, f, h, hf => by
    cases f with
    | zero => omega
    | succ f =>
      have hp := (at_S (show AtT l i (tS s :: ts) from h)).1
      rw [nmsT, hp, if_neg hs]
      rfl
  | n :: ns, i, f, h, hf => by
    cases f with
    | zero => omega
    | succ f =>
      rw [tkM, if_pos rfl] at h ⊢
      simp only [List.cons_append, List.nil_append, List.length_cons] at h hf ⊢
      have hp := (at_S h).1
      obtain ⟨-, -, t, q3, q4⟩ := at_N h.2
      rw [nmsT, if_pos hp, q3]
      simp only
      rw [nmsT_of hs ns _ f h.2.2 (by omega), q4]
      simp only
      congr 2
      omega
theorem tkM_len : ∀ (c : Bool) (ns : List ByteArray), ns.length ≤ (tkM c ns).length
  | _, [] => Nat.zero_le _
  | c, n :: ns => by
    have := tkM_len true ns
    rw [tkM, List.length_append]
    simp only [List.length_cons]
    omega
theorem nms_of {l : List Tk} {s : ByteArray} {ts : List Tk} (hs : s ≠ (⟨#[44]⟩ : ByteArray)) {ns : List ByteArray} (hne : ns ≠ []) {i : Nat} (h : AtT l i (tkM false ns ++ tS s :: ts)) : nmsE l i = some (ns, i + (tkM false ns).length) := by
  cases ns with
  | nil => exact absurd rfl hne
  | cons n ns =>
    have hl := at_le h (by simp)
    rw [tkM, if_neg (by decide)] at h hl ⊢
    simp only [List.nil_append, List.cons_append, List.length_cons, List.length_append] at h hl ⊢
    obtain ⟨-, -, t, q3, q4⟩ := at_N h
    have := tkM_len true ns
    unfold nmsE
    rw [q3]
    simp only
    rw [nmsT_of hs ns _ (l.length + 1) h.2 (by omega), q4]
    simp only
    congr 2
    omega
theorem locs_of {l : List Tk} {ns : List ByteArray} {ts : List Tk} {i : Nat} (h : AtT l i (tkL ns ++ ts)) (hp : peekE l (i + (tkL ns).length) ≠ (⟨#[118, 97, 114]⟩ : ByteArray)) {f : Nat} (hf : 2 ≤ f) : locsE l f i = some (ns, i + (tkL ns).length) := by
  obtain ⟨f, rfl⟩ : ∃ g, f = g + 2 := ⟨f - 2, by omega⟩
  unfold tkL at h hp ⊢
  by_cases hn : ns = []
  · subst hn
    rw [if_pos rfl] at h hp ⊢
    have hp : peekE l i ≠ (⟨#[118, 97, 114]⟩ : ByteArray) := hp
    rw [locsE, if_neg hp]
    rfl
  · rw [if_neg hn] at h hp ⊢
    simp only [List.cons_append, List.append_assoc, List.length_cons, List.length_append, List.nil_append, List.length_nil] at h hp ⊢
    have p0 := (at_W h).1
    have hx := nms_of (s := ⟨#[59]⟩) (by decide) hn h.2
    have p2 := (at_S (at_app h.2).2).1
    rw [show i + ((tkM false ns).length + (0 + 1) + 1) = i + 1 + (tkM false ns).length + 1 by omega] at hp ⊢
    rw [locsE, if_pos p0, hx]
    simp only
    rw [must1 p2]
    simp only
    rw [locsE, if_neg hp]
    simp
theorem head_of {l : List Tk} {nm : ByteArray} {ps : List ByteArray} {w : Bool} {i : Nat} {ts : List Tk}
    (h : AtT l i (tW ⟨#[102, 117, 110, 99]⟩ :: tN nm :: tS ⟨#[40]⟩ :: (tkM false ps ++ tS ⟨#[41]⟩ :: ((if w = true then [tW ⟨#[119, 111, 114, 100]⟩] else []) ++ tS ⟨#[123]⟩ :: ts)))) :
    headE l i = some ((nm, ps, w), i + 3 + (tkM false ps).length + 1 + (if w = true then 1 else 0) + 1) := by
  have p0 := (at_W h).1
  obtain ⟨-, -, t, q3, q4⟩ := at_N h.2
  have p1 := (at_S h.2.2).1
  obtain ⟨h3, h4⟩ := at_app h.2.2.2
  have p2 := (at_S h4).1
  have hnm : (if kindE l (i + 1 + 1 + 1) = 1 then nmsE l (i + 1 + 1 + 1) else some ([], i + 1 + 1 + 1)) = some (ps, i + 1 + 1 + 1 + (tkM false ps).length) := by
    cases ps with
    | nil =>
      have hk := (at_S (show AtT l (i + 1 + 1 + 1) (tS ⟨#[41]⟩ :: _) from h.2.2.2)).2
      rw [hk, if_neg (by decide)]
      rfl
    | cons n ns =>
      have hx := nms_of (s := ⟨#[41]⟩) (by decide) (by simp) h.2.2.2
      have hk : kindE l (i + 1 + 1 + 1) = 1 := by
        have h5 := h.2.2.2
        rw [tkM, if_neg (by decide)] at h5
        exact (at_N (show AtT l (i + 1 + 1 + 1) (tN n :: _) from h5)).2.1
      rw [hk, if_pos rfl]
      exact hx
  unfold headE
  rw [must1 p0]
  simp only
  rw [q3]
  simp only
  rw [must1 p1]
  simp only
  rw [hnm]
  simp only
  rw [must1 p2]
  simp only
  cases w with
  | true =>
    have h5 : AtT l (i + 1 + 1 + 1 + (tkM false ps).length + 1) (tW ⟨#[119, 111, 114, 100]⟩ :: tS ⟨#[123]⟩ :: ts) := h4.2
    have p3 := (at_W h5).1
    have p4 := (at_S h5.2).1
    unfold mayE
    rw [if_pos p3, must1 p4]
    simp only
    rw [p3, q4]
    simp
  | false =>
    have h5 : AtT l (i + 1 + 1 + 1 + (tkM false ps).length + 1) (tS ⟨#[123]⟩ :: ts) := h4.2
    have p3 := (at_S h5).1
    unfold mayE
    rw [p3, if_neg (by decide), must1 p3]
    simp only
    rw [q4]
    simp
theorem fun_of {l : List Tk} {x : Fu} {d : Nat} (hb : ∀ y ∈ x.body, RS d y) {i : Nat} {ts : List Tk} (h : AtT l i (tkF x ++ ts)) : funE l i = some (x, i + (tkF x).length) := by
  have hl := at_le h (by simp [tkF])
  obtain ⟨nm, ps, ls, w, b⟩ := x
  have e : tkF ⟨nm, ps, ls, w, b⟩ ++ ts = tW ⟨#[102, 117, 110, 99]⟩ :: tN nm :: tS ⟨#[40]⟩ :: (tkM false ps ++ tS ⟨#[41]⟩ :: ((if w = true then [tW ⟨#[119, 111, 114, 100]⟩] else []) ++ tS ⟨#[123]⟩ :: (tkL ls ++ (tkSs b ++ tS ⟨#[125]⟩ :: ts)))) := by
    unfold tkF
    simp
  have hlen : (tkF ⟨nm, ps, ls, w, b⟩).length = 3 + (tkM false ps).length + 1 + (if w = true then 1 else 0) + 1 + (tkL ls).length + (tkSs b).length + 1 := by
    unfold tkF
    cases w <;> simp <;> omega
  rw [e] at h
  rw [List.length_append, hlen] at hl
  rw [hlen]
  have hh := head_of h
  have h1 : AtT l (i + 3 + (tkM false ps).length + 1 + (if w = true then 1 else 0) + 1) (tkL ls ++ (tkSs b ++ tS ⟨#[125]⟩ :: ts)) := by
    have h2 := (at_app (at_app h.2.2.2).2.2).2.2
    have e3 : ∀ n, i + 1 + 1 + 1 + (tkM false ps).length + 1 + (if w = true then [tW ⟨#[119, 111, 114, 100]⟩] else ([] : List Tk)).length + 1 = n → AtT l n (tkL ls ++ (tkSs b ++ tS ⟨#[125]⟩ :: ts)) := fun n hn => hn ▸ h2
    refine e3 _ ?_
    cases w <;> simp
  obtain ⟨-, h2⟩ := at_app h1
  have hb : ∀ y ∈ b, RS d y := hb
  have hv := (hd_Ss hb h2).2
  have hlo := locs_of (f := l.length + 1) h1 hv (by omega)
  have hst := stmts_of b (fun y hy => ⟨stmt_all d y (hb y hy), hb y hy⟩) _ (fuS l) h2 (by unfold fuS; omega)
  unfold funE
  rw [hh]
  simp only
  rw [hlo]
  simp only
  rw [hst]
  simp only
  congr 2
  omega
theorem tkF_pos (x : Fu) : 0 < (tkF x).length := by simp [tkF]
theorem funs_of {l : List Tk} : ∀ (fs : List Fu), (∀ x ∈ fs, ∃ d, ∀ y ∈ x.body, RS d y) → ∀ (i f : Nat), AtT l i (tkFs fs) → i + (tkFs fs).length = l.length → fs.length + 1 ≤ f → funsE l f i = some (fs, i + (tkFs fs).length)
  | [], _, i, f, h, hi, hf => by
    cases f with
    | zero => omega
    | succ f =>
      have hi : i = l.length := hi
      rw [funsE, if_neg (by omega)]
      rfl
  | x :: fs, hx, i, f, h, hi, hf => by
    cases f with
    | zero => omega
    | succ f =>
      rw [tkFs] at h hi ⊢
      simp only [List.length_append, List.length_cons] at h hi hf ⊢
      obtain ⟨d, hd⟩ := hx x (by simp)
      have hpos := tkF_pos x
      obtain ⟨-, h2⟩ := at_app h
      rw [funsE, if_pos (by omega), fun_of hd h]
      simp only
      rw [funs_of fs (fun y hy => hx y (by simp [hy])) _ f h2 (by omega) (by omega)]
      simp only
      congr 2
      omega
theorem hd_F {l : List Tk} {i : Nat} {x : Fu} {ts : List Tk} (h : AtT l i (tkF x ++ ts)) : peekE l i = (⟨#[102, 117, 110, 99]⟩ : ByteArray) := (at_W (show AtT l i (tW ⟨#[102, 117, 110, 99]⟩ :: _) from h)).1
theorem decA_of {l : List Tk} {x : Fu} {ts : List Tk} : ∀ (ars : List Ar), (∀ a ∈ ars, 0 ≤ a.size ∧ a.size < 4294967296) → ∀ (i f : Nat), AtT l i (tkAs ars ++ (tkF x ++ ts)) → ars.length + 1 ≤ f → decsE l f i = some (([], ars), i + (tkAs ars).length)
  | [], _, i, f, h, hf => by
    cases f with
    | zero => omega
    | succ f =>
      have hp := hd_F (show AtT l i (tkF x ++ ts) from h)
      rw [decsE, hp, if_neg (by decide), if_neg (by decide)]
      rfl
  | a :: ars, hs, i, f, h, hf => by
    cases f with
    | zero => omega
    | succ f =>
      obtain ⟨an, az⟩ := a
      have hz := hs ⟨an, az⟩ (by simp)
      simp only at hz
      have h : AtT l i (tW ⟨#[97, 114, 114, 97, 121]⟩ :: tN an :: tS ⟨#[91]⟩ :: tD az.toNat :: tS ⟨#[93]⟩ :: tS ⟨#[59]⟩ :: (tkAs ars ++ (tkF x ++ ts))) := h
      have e : (tkAs (⟨an, az⟩ :: ars)).length = 6 + (tkAs ars).length := by
        rw [tkAs, List.length_append]
        rfl
      simp only [List.length_cons] at hf
      rw [e]
      have p0 := (at_W h).1
      obtain ⟨-, -, t, q1, q2⟩ := at_N h.2
      have p1 := (at_S h.2.2).1
      obtain ⟨-, -, u, q3, q4⟩ := at_D h.2.2.2
      have p2 := (at_S h.2.2.2.2).1
      have p3 := (at_S h.2.2.2.2.2).1
      rw [decsE, p0, if_neg (by decide), if_pos rfl, q1]
      simp only
      rw [must1 p1]
      simp only
      rw [q3]
      simp only
      rw [must1 p2]
      simp only
      rw [must1 p3]
      simp only
      rw [decA_of ars (fun b hb => hs b (by simp [hb])) _ f h.2.2.2.2.2.2 (by omega), q2, q4]
      simp only
      have hu : (UInt32.ofNat az.toNat).toNat = az.toNat := by
        rw [UInt32.toNat_ofNat']
        omega
      rw [hu, show ((az.toNat : Nat) : Int) = az by omega]
      congr 2
      omega
theorem tkAs_len : ∀ (ars : List Ar), ars.length ≤ (tkAs ars).length
  | [] => Nat.zero_le _
  | a :: ars => by
    have := tkAs_len ars
    rw [tkAs, List.length_append]
    have : (tkA a).length = 6 := rfl
    simp only [List.length_cons]
    omega
theorem tkFs_len : ∀ (fs : List Fu), fs.length ≤ (tkFs fs).length
  | [] => Nat.zero_le _
  | f :: fs => by
    have := tkFs_len fs
    have := tkF_pos f
    rw [tkFs, List.length_append]
    simp only [List.length_cons]
    omega
theorem prog_of {p : Pg} (hp : RP p) {l : List Tk} (h : AtT l 0 (tkP p)) (hl : l.length = (tkP p).length) : progE l = some (p, l.length) := by
  have hf : ∀ x ∈ p.funcs, ∃ d, ∀ y ∈ x.body, RS d y := fun x hx => (hp.funs x hx).body
  have ha : ∀ a ∈ p.arrays, 0 ≤ a.size ∧ a.size < 4294967296 := fun a h => by
    have h1 := (hp.arrs a h).lo
    have h2 := (hp.arrs a h).hi
    omega
  have hso := hp.some
  obtain ⟨vs, ars, fs⟩ := p
  cases fs with
  | nil => exact absurd rfl hso
  | cons x fs =>
    have h : AtT l 0 (tkL vs ++ (tkAs ars ++ (tkF x ++ tkFs fs))) := h
    have hl : l.length = (tkL vs).length + ((tkAs ars).length + ((tkF x).length + (tkFs fs).length)) := by
      rw [hl]
      show (tkL vs ++ (tkAs ars ++ (tkF x ++ tkFs fs))).length = _
      simp only [List.length_append]
    obtain ⟨h1, h2⟩ := at_app h
    rw [Nat.zero_add] at h2
    obtain ⟨h3, h4⟩ := at_app h2
    obtain ⟨d, hd⟩ := hf x (by simp)
    have hA := tkAs_len ars
    have hF := tkFs_len fs
    have hP := tkF_pos x
    have hdec : decsE l (l.length + 1) 0 = some ((vs, ars), (tkL vs).length + (tkAs ars).length) := by
      by_cases hv : vs = []
      · subst hv
        have e0 : (tkL []).length = 0 := rfl
        rw [e0] at h2 ⊢
        rw [decA_of (x := x) (ts := tkFs fs) ars ha 0 (l.length + 1) h2 (by omega)]
      · have e0 : tkL vs = tW ⟨#[118, 97, 114]⟩ :: (tkM false vs ++ [tS ⟨#[59]⟩]) := by unfold tkL; rw [if_neg hv]
        have e1 : (tkL vs).length = 1 + (tkM false vs).length + 1 := by
          rw [e0]
          simp only [List.length_cons, List.length_append, List.length_nil]
          omega
        rw [e0] at h1
        have p0 := (at_W h1).1
        have hx := nms_of (s := ⟨#[59]⟩) (by decide) hv h1.2
        have p2 := (at_S (at_app h1.2).2).1
        have hpos : 0 < l.length := by omega
        obtain ⟨m, hm⟩ : ∃ m, l.length = m + 1 := ⟨l.length - 1, by omega⟩
        rw [decsE, if_pos p0, hx]
        simp only
        rw [must1 p2]
        simp only
        rw [e1] at h2
        rw [show 0 + 1 + (tkM false vs).length + 1 = 1 + (tkM false vs).length + 1 by omega]
        rw [decA_of (x := x) (ts := tkFs fs) ars ha _ l.length h2 (by omega), e1]
        simp
    obtain ⟨-, h5⟩ := at_app h4
    have hfu := fun_of hd h4
    have hfs := funs_of fs (fun y hy => hf y (by simp [hy])) _ (l.length + 1) h5 (by omega) (by omega)
    unfold progE
    rw [hdec]
    simp only
    rw [hfu]
    simp only
    rw [hfs]
    simp only
    congr 2
    omega
theorem at_st {l : List Tk} : ∀ {ts pre : List Tk}, (pre ++ l.drop pre.length = l) → (l.drop pre.length).map stT = ts → AtT l pre.length ts
  | [], _, _, _ => trivial
  | t :: ts, pre, h, hm => by
    cases hd : l.drop pre.length with
    | nil => rw [hd] at hm; cases hm
    | cons x r =>
      rw [hd] at hm h
      rw [List.map_cons] at hm
      injection hm with h1 h2
      have e : l = (pre ++ [x]) ++ r := by rw [← h]; simp
      have e2 : (pre ++ [x]).length = pre.length + 1 := by simp
      refine ⟨⟨x, ?_, h1⟩, ?_⟩
      · rw [e, List.append_assoc, List.getElem?_append_right (Nat.le_refl _), Nat.sub_self]
        rfl
      · rw [← e2]
        have e3 : l.drop (pre ++ [x]).length = r := by
          conv => lhs; rw [e]
          exact List.drop_left
        exact at_st (by rw [e3]; exact e.symm) (by rw [e3]; exact h2)
/-- A printed program falls into tokens of which it is read. -/
theorem printed {p : Pg} (hp : RP p) : ∃ l, lexE (prP p) ((prP p).size + 1) 0 = .ok l ∧ progE l = some (p, l.length) := by
  obtain ⟨l, h1, h2⟩ := lex_of (s := prP p) (lex_P hp) 0 ((prP p).size + 1) (Nat.zero_le _) (by rw [List.drop_zero]) (by omega)
  refine ⟨l, h1, prog_of hp ?_ (by rw [← h2, List.length_map])⟩
  exact at_st (pre := []) (by simp) (by simpa using h2)
end Go.Proofs.YtddggjmfplohkaaDoor
