import Derived.Test.YtddggjmfplohkaaDoorTq
/- Right programs are told by their texts. -/
namespace Go.Proofs.YtddggjmfplohkaaDoor
open Go.RowKit
/-- A statement that may be, of a depth. -/
def RS : Nat → Sm → Prop
  | 0, _ => False
  | d + 1, .mk k s es t f => (∀ e ∈ es, RE d e) ∧ (∀ x ∈ t, RS d x) ∧ (∀ x ∈ f, RS d x) ∧
    ((k = 1 ∧ isE s = true ∧ (∃ a, es = [a]) ∧ t = [] ∧ f = []) ∨
    (k = 2 ∧ isE s = true ∧ (∃ a b, es = [a, b]) ∧ t = [] ∧ f = []) ∨
    (k = 3 ∧ s = ByteArray.empty ∧ (∃ a, es = [a]) ∧ t = [] ∧ f = []) ∨
    (k = 4 ∧ s = ByteArray.empty ∧ ∃ a, es = [a]) ∨
    (k = 5 ∧ s = ByteArray.empty ∧ (∃ a, es = [a]) ∧ f = []) ∨
    (k = 6 ∧ isE s = true ∧ es.length ≤ 6 ∧ t = [] ∧ f = []) ∨
    (k = 7 ∧ s = ByteArray.empty ∧ (es = [] ∨ ∃ a, es = [a]) ∧ t = [] ∧ f = []))
def kwPut : List UInt8 := [112, 117, 116]
def kwIf : List UInt8 := [105, 102]
def kwWhile : List UInt8 := [119, 104, 105, 108, 101]
def kwRet : List UInt8 := [114, 101, 116, 117, 114, 110]
def tagS (w r : List UInt8) : Int :=
  if w = kwPut then 3 else if w = kwIf then 4 else if w = kwWhile then 5 else if w = kwRet then 7 else if r.head? = some 91 then 2 else if r.head? = some 40 then 6 else 1
theorem nof_c {P : UInt8 → Bool} {b : UInt8} {u : List UInt8} (h : P b = false) : nof P (b :: u) := h
theorem tag_put (r : List UInt8) : tagS kwPut r = 3 := by
  unfold tagS
  rw [if_pos rfl]
theorem tag_if (r : List UInt8) : tagS kwIf r = 4 := by
  unfold tagS
  rw [if_neg (by decide), if_pos rfl]
theorem tag_while (r : List UInt8) : tagS kwWhile r = 5 := by
  unfold tagS
  rw [if_neg (by decide), if_neg (by decide), if_pos rfl]
theorem tag_ret (r : List UInt8) : tagS kwRet r = 7 := by
  unfold tagS
  rw [if_neg (by decide), if_neg (by decide), if_neg (by decide), if_pos rfl]
theorem tag_var (r : List UInt8) : tagS [118, 97, 114] (32 :: r) = 1 := by
  unfold tagS
  rw [if_neg (by decide), if_neg (by decide), if_neg (by decide), if_neg (by decide)]
  simp
theorem tag_nameS {s : ByteArray} (h : isE s = true) (r : List UInt8) : tagS (lb s) r = if r.head? = some 91 then 2 else if r.head? = some 40 then 6 else 1 := by
  obtain ⟨-, -, h3, -⟩ := isE_is h
  have hg : ∀ x : Array UInt8, (⟨x⟩ : ByteArray) ∈ wordsL → lb s ≠ x.toList := fun x hx e => h3 (by
    rw [show s = ⟨x⟩ from lb_inj e]
    exact hx)
  unfold tagS kwPut kwIf kwWhile kwRet
  rw [if_neg (hg #[112, 117, 116] (by simp [wordsL])), if_neg (hg #[105, 102] (by simp [wordsL])), if_neg (hg #[119, 104, 105, 108, 101] (by simp [wordsL])), if_neg (hg #[114, 101, 116, 117, 114, 110] (by simp [wordsL]))]
/-- What comes behind an if's first block. -/
def elseL (lv : Nat) (f : List Sm) (u : List UInt8) : List UInt8 :=
  if f.isEmpty = true then 10 :: u else 32 :: 101 :: 108 :: 115 :: 101 :: 32 :: 123 :: 10 :: (lb (prSs (lv + 1) f) ++ (lb (indE lv) ++ 125 :: 10 :: u))
theorem lb_ind (n : Nat) : lb (indE n) = List.replicate (2 * n) 32 := by
  induction n with
  | zero => rfl
  | succ n ih =>
    rw [indE, lb_app, ih, show 2 * (n + 1) = 2 * n + 2 by omega, ← List.replicate_append_replicate]
    rfl
theorem lb_e1 (a : Ex) : lb (prEs false [a]) = lb (prE a) := by
  rw [lb_es]; simp [prEs, lb_nil]
theorem formS {d : Nat} {k : Int} {s : ByteArray} {es : List Ex} {t f : List Sm} (h : RS (d + 1) (.mk k s es t f)) (lv : Nat) (u : List UInt8) :
    ∃ w r, lb (prS lv (.mk k s es t f)) ++ u = lb (indE lv) ++ (w ++ r) ∧ (∀ x ∈ w, inE x = true) ∧ nof inE r ∧ tagS w r = k ∧ (∃ x y, w = x :: y ∧ letterE x = true) ∧
      (k = 1 → w = lb s ∧ ∀ a, es = [a] → r = 32 :: 61 :: 32 :: (lb (prE a) ++ 59 :: 10 :: u)) ∧
      (k = 2 → w = lb s ∧ ∀ a b, es = [a, b] → r = 91 :: (lb (prE a) ++ 93 :: 32 :: 61 :: 32 :: (lb (prE b) ++ 59 :: 10 :: u))) ∧
      (k = 3 → ∀ a, es = [a] → r = 40 :: (lb (prE a) ++ 41 :: 59 :: 10 :: u)) ∧
      (k = 4 → ∀ a, es = [a] → r = 32 :: 40 :: (lb (prE a) ++ 41 :: 32 :: 123 :: 10 :: (lb (prSs (lv + 1) t) ++ (lb (indE lv) ++ 125 :: elseL lv f u)))) ∧
      (k = 5 → ∀ a, es = [a] → r = 32 :: 40 :: (lb (prE a) ++ 41 :: 32 :: 123 :: 10 :: (lb (prSs (lv + 1) t) ++ (lb (indE lv) ++ 125 :: 10 :: u)))) ∧
      (k = 6 → w = lb s ∧ r = 40 :: (lb (prEs false es) ++ 41 :: 59 :: 10 :: u)) ∧
      (k = 7 → (es = [] → r = 59 :: 10 :: u) ∧ ∀ a, es = [a] → r = 32 :: (lb (prE a) ++ 59 :: 10 :: u)) := by
  have nm : isE s = true → ∃ x y, lb s = x :: y ∧ letterE x = true := fun h => by
    obtain ⟨-, -, -, c, t, h4, h5⟩ := isE_is h
    exact ⟨c, t, h4, h5⟩
  rcases h.2.2.2 with ⟨rfl, h1, ⟨a, rfl⟩, rfl, rfl⟩ | ⟨rfl, h1, ⟨a, b, rfl⟩, rfl, rfl⟩ | ⟨rfl, rfl, ⟨a, rfl⟩, rfl, rfl⟩ | ⟨rfl, rfl, ⟨a, rfl⟩⟩ | ⟨rfl, rfl, ⟨a, rfl⟩, rfl⟩ | ⟨rfl, h1, h2, rfl, rfl⟩ | ⟨rfl, rfl, h2, rfl, rfl⟩
  · refine ⟨lb s, 32 :: 61 :: 32 :: (lb (prE a) ++ 59 :: 10 :: u), ?_, (isE_is h1).1, rfl, by rw [tag_nameS h1]; rfl, nm h1, fun _ => ⟨rfl, fun b hb => by cases hb; rfl⟩, ?_⟩
    · rw [show prS lv (.mk 1 s [a] [] []) = indE lv ++ (s ++ ⟨#[32, 61, 32]⟩) ++ prEs false [a] ++ ⟨#[59]⟩ ++ ⟨#[10]⟩ from rfl]
      simp only [lb_app, lb_e1, lb_mk, List.append_assoc]
      rfl
    · refine ⟨?_, ?_, ?_, ?_, ?_, ?_⟩ <;> simp
  · refine ⟨lb s, 91 :: (lb (prE a) ++ 93 :: 32 :: 61 :: 32 :: (lb (prE b) ++ 59 :: 10 :: u)), ?_, (isE_is h1).1, rfl, by rw [tag_nameS h1]; rfl, nm h1, by simp, fun _ => ⟨rfl, fun a' b' hb => by cases hb; rfl⟩, ?_⟩
    · rw [show prS lv (.mk 2 s [a, b] [] []) = indE lv ++ (s ++ ⟨#[91]⟩) ++ prE a ++ ⟨#[93, 32, 61, 32]⟩ ++ prEs false [b] ++ ⟨#[59]⟩ ++ ⟨#[10]⟩ from rfl]
      simp only [lb_app, lb_e1, lb_mk, List.append_assoc]
      rfl
    · refine ⟨?_, ?_, ?_, ?_, ?_⟩ <;> simp
  · refine ⟨kwPut, 40 :: (lb (prE a) ++ 41 :: 59 :: 10 :: u), ?_, by decide, rfl, tag_put _, ⟨_, _, rfl, rfl⟩, by simp, by simp, fun _ b hb => by cases hb; rfl, ?_⟩
    · rw [show prS lv (.mk 3 ByteArray.empty [a] [] []) = indE lv ++ ⟨#[112, 117, 116, 40]⟩ ++ prEs false [a] ++ ⟨#[41, 59]⟩ ++ ⟨#[10]⟩ from rfl]
      simp only [lb_app, lb_e1, lb_mk, List.append_assoc]
      rfl
    · refine ⟨?_, ?_, ?_, ?_⟩ <;> simp
  · refine ⟨kwIf, 32 :: 40 :: (lb (prE a) ++ 41 :: 32 :: 123 :: 10 :: (lb (prSs (lv + 1) t) ++ (lb (indE lv) ++ 125 :: elseL lv f u))), ?_, by decide, rfl, tag_if _, ⟨_, _, rfl, rfl⟩, by simp, by simp, by simp, fun _ b hb => by cases hb; rfl, ?_⟩
    · rw [show prS lv (.mk 4 ByteArray.empty [a] t f) = indE lv ++ ⟨#[105, 102, 32, 40]⟩ ++ prEs false [a] ++ ⟨#[41, 32, 123]⟩ ++ ⟨#[10]⟩ ++ prSs (lv + 1) t ++ (if f.isEmpty = true then ByteArray.empty else indE lv ++ ⟨#[125, 32, 101, 108, 115, 101, 32, 123]⟩ ++ ⟨#[10]⟩ ++ prSs (lv + 1) f) ++ indE lv ++ ⟨#[125]⟩ ++ ⟨#[10]⟩ from rfl]
      unfold elseL
      cases f with
      | nil =>
        simp only [List.isEmpty_nil, if_true, lb_app, lb_e1, lb_mk, lb_nil, List.append_assoc, List.nil_append]
        rfl
      | cons x f =>
        simp only [List.isEmpty_cons, Bool.false_eq_true, if_false, lb_app, lb_e1, lb_mk, List.append_assoc]
        rfl
    · refine ⟨?_, ?_, ?_⟩ <;> simp
  · refine ⟨kwWhile, 32 :: 40 :: (lb (prE a) ++ 41 :: 32 :: 123 :: 10 :: (lb (prSs (lv + 1) t) ++ (lb (indE lv) ++ 125 :: 10 :: u))), ?_, by decide, rfl, tag_while _, ⟨_, _, rfl, rfl⟩, by simp, by simp, by simp, by simp, fun _ b hb => by cases hb; rfl, ?_⟩
    · rw [show prS lv (.mk 5 ByteArray.empty [a] t []) = indE lv ++ ⟨#[119, 104, 105, 108, 101, 32, 40]⟩ ++ prEs false [a] ++ ⟨#[41, 32, 123]⟩ ++ ⟨#[10]⟩ ++ prSs (lv + 1) t ++ ByteArray.empty ++ indE lv ++ ⟨#[125]⟩ ++ ⟨#[10]⟩ from rfl]
      simp only [lb_app, lb_e1, lb_mk, lb_nil, List.append_assoc, List.nil_append]
      rfl
    · refine ⟨?_, ?_⟩ <;> simp
  · refine ⟨lb s, 40 :: (lb (prEs false es) ++ 41 :: 59 :: 10 :: u), ?_, (isE_is h1).1, rfl, by rw [tag_nameS h1]; rfl, nm h1, by simp, by simp, by simp, by simp, by simp, fun _ => ⟨rfl, rfl⟩, by simp⟩
    rw [show prS lv (.mk 6 s es [] []) = indE lv ++ (s ++ ⟨#[40]⟩) ++ prEs false es ++ ⟨#[41, 59]⟩ ++ ⟨#[10]⟩ from rfl]
    simp only [lb_app, lb_mk, List.append_assoc]
    rfl
  · rcases h2 with rfl | ⟨a, rfl⟩
    · refine ⟨kwRet, 59 :: 10 :: u, ?_, by decide, rfl, tag_ret _, ⟨_, _, rfl, rfl⟩, by simp, by simp, by simp, by simp, by simp, by simp, fun _ => ⟨fun _ => rfl, by simp⟩⟩
      rw [show prS lv (.mk 7 ByteArray.empty [] [] []) = indE lv ++ ⟨#[114, 101, 116, 117, 114, 110]⟩ ++ ByteArray.empty ++ ⟨#[59]⟩ ++ ⟨#[10]⟩ from rfl]
      simp only [lb_app, lb_mk, lb_nil, List.append_assoc, List.nil_append]
      rfl
    · refine ⟨kwRet, 32 :: (lb (prE a) ++ 59 :: 10 :: u), ?_, by decide, rfl, tag_ret _, ⟨_, _, rfl, rfl⟩, by simp, by simp, by simp, by simp, by simp, by simp, fun _ => ⟨by simp, fun b hb => by cases hb; rfl⟩⟩
      rw [show prS lv (.mk 7 ByteArray.empty [a] [] []) = indE lv ++ ⟨#[114, 101, 116, 117, 114, 110]⟩ ++ (⟨#[32]⟩ ++ prEs false [a]) ++ ⟨#[59]⟩ ++ ⟨#[10]⟩ from rfl]
      simp only [lb_app, lb_e1, lb_mk, List.append_assoc]
      rfl
/-- What one text says of a statement that may be. -/
def OneS (x : Sm) : Prop := ∀ d' x', RS d' x' → ∀ lv u v, lb (prS lv x) ++ u = lb (prS lv x') ++ v → x = x' ∧ u = v
theorem head_S {d : Nat} {x : Sm} (h : RS d x) (lv : Nat) : ∃ b t, lb (prS lv x) = lb (indE lv) ++ b :: t ∧ letterE b = true := by
  cases d with
  | zero => exact h.elim
  | succ d =>
    obtain ⟨k, s, es, t, f⟩ := x
    obtain ⟨w, r, e1, -, -, -, ⟨b, y, rfl, hb⟩, -⟩ := formS h lv []
    exact ⟨b, y ++ r, by simpa using e1, hb⟩
theorem ind_end {d : Nat} {x : Sm} (h : RS d x) (lv : Nat) (u v : List UInt8) : lb (indE lv) ++ 125 :: u ≠ lb (prS (lv + 1) x) ++ v := by
  intro he
  obtain ⟨b, t, h1, -⟩ := head_S h (lv + 1)
  rw [h1, indE, lb_app, List.append_assoc, List.append_assoc] at he
  have := List.append_cancel_left he
  rw [lb_mk] at this
  simp at this
theorem one_Ss : ∀ (l : List Sm), (∀ x ∈ l, OneS x ∧ ∃ d, RS d x) → ∀ (l' : List Sm) (d' : Nat), (∀ x ∈ l', RS d' x) → ∀ lv u v, lb (prSs (lv + 1) l) ++ (lb (indE lv) ++ 125 :: u) = lb (prSs (lv + 1) l') ++ (lb (indE lv) ++ 125 :: v) → l = l' ∧ u = v
  | [], _, [], d', _, lv, u, v, h => by
    have h := List.append_cancel_left (show lb (indE lv) ++ 125 :: u = lb (indE lv) ++ 125 :: v from h)
    cases h
    exact ⟨rfl, rfl⟩
  | [], _, x' :: l', d', h', lv, u, v, h => by
    rw [prSs, prSs, lb_app, List.append_assoc] at h
    exact (ind_end (h' x' (by simp)) lv _ _ h).elim
  | x :: l, ih, [], d', _, lv, u, v, h => by
    rw [prSs, prSs, lb_app, List.append_assoc] at h
    exact (ind_end (ih x (by simp)).2.choose_spec lv _ _ h.symm).elim
  | x :: l, ih, x' :: l', d', h', lv, u, v, h => by
    rw [prSs, prSs, lb_app, lb_app, List.append_assoc, List.append_assoc] at h
    obtain ⟨rfl, hz⟩ := (ih x (by simp)).1 d' x' (h' x' (by simp)) _ _ _ h
    clear h
    have h := hz
    clear hz
    obtain ⟨rfl, rfl⟩ := one_Ss l (fun e he => ih e (by simp [he])) l' d' (fun e he => h' e (by simp [he])) lv u v h
    exact ⟨rfl, rfl⟩
theorem one_S : ∀ (d : Nat) (x : Sm), RS d x → OneS x
  | 0, _, h => h.elim
  | d + 1, .mk k s es t f, h => by
    intro d' x' h' lv u v he
    cases d' with
    | zero => exact h'.elim
    | succ d' =>
      obtain ⟨k', s', es', t', f'⟩ := x'
      obtain ⟨w, r, e1, e2, e3, e4, -, f1, f2, f3, f4, f5, f6, f7⟩ := formS h lv u
      obtain ⟨w', r', e1', e2', e3', e4', -, f1', f2', f3', f4', f5', f6', f7'⟩ := formS h' lv v
      have ih : ∀ a ∈ es, OneE a := fun a ha => one_E d a (h.1 a ha)
      have iht : ∀ x ∈ t, OneS x ∧ ∃ d, RS d x := fun x hx => ⟨one_S d x (h.2.1 x hx), d, h.2.1 x hx⟩
      have ihf : ∀ x ∈ f, OneS x ∧ ∃ d, RS d x := fun x hx => ⟨one_S d x (h.2.2.1 x hx), d, h.2.2.1 x hx⟩
      rw [e1, e1'] at he
      obtain ⟨rfl, rfl⟩ := span_one e2 e2' e3 e3' (List.append_cancel_left he)
      have hc : k = k' := by rw [← e4, ← e4']
      clear e1 e1' e2 e2' e3 e3' e4 e4' he
      subst hc
      have hE' := h'.1
      have hT' := h'.2.1
      have hF' := h'.2.2.1
      have h5 := h'.2.2.2
      clear h'
      rcases h.2.2.2 with ⟨rfl, h1, ⟨a, rfl⟩, rfl, rfl⟩ | ⟨rfl, h1, ⟨a, b, rfl⟩, rfl, rfl⟩ | ⟨rfl, rfl, ⟨a, rfl⟩, rfl, rfl⟩ | ⟨rfl, rfl, ⟨a, rfl⟩⟩ | ⟨rfl, rfl, ⟨a, rfl⟩, rfl⟩ | ⟨rfl, h1, h2, rfl, rfl⟩ | ⟨rfl, rfl, h2, rfl, rfl⟩
      · obtain ⟨-, ⟨a', rfl⟩, rfl, rfl⟩ : isE s' = true ∧ (∃ a, es' = [a]) ∧ t' = [] ∧ f' = [] := by simpa using h5
        obtain ⟨g1, g2⟩ := f1 rfl
        obtain ⟨g1', g2'⟩ := f1' rfl
        have hs := lb_inj (g1.symm.trans g1')
        have hh := (g2 _ rfl).symm.trans (g2' _ rfl)
        simp only [List.cons.injEq, true_and] at hh
        obtain ⟨rfl, hz⟩ := ih a (by simp) d' a' (hE' a' (by simp)) _ _ (fol_59 _) (fol_59 _) hh
        clear hh
        have hh := hz
        clear hz
        cases hh
        rw [hs]
        exact ⟨rfl, rfl⟩
      · obtain ⟨-, ⟨a', b', rfl⟩, rfl, rfl⟩ : isE s' = true ∧ (∃ a b, es' = [a, b]) ∧ t' = [] ∧ f' = [] := by simpa using h5
        obtain ⟨g1, g2⟩ := f2 rfl
        obtain ⟨g1', g2'⟩ := f2' rfl
        have hs := lb_inj (g1.symm.trans g1')
        have hh := (g2 _ _ rfl).symm.trans (g2' _ _ rfl)
        simp only [List.cons.injEq, true_and] at hh
        obtain ⟨rfl, hz⟩ := ih a (by simp) d' a' (hE' a' (by simp)) _ _ (fol_93 _) (fol_93 _) hh
        clear hh
        have hh := hz
        clear hz
        simp only [List.cons.injEq, true_and] at hh
        obtain ⟨rfl, hz⟩ := ih b (by simp) d' b' (hE' b' (by simp)) _ _ (fol_59 _) (fol_59 _) hh
        clear hh
        have hh := hz
        clear hz
        cases hh
        rw [hs]
        exact ⟨rfl, rfl⟩
      · obtain ⟨rfl, ⟨a', rfl⟩, rfl, rfl⟩ : s' = ByteArray.empty ∧ (∃ a, es' = [a]) ∧ t' = [] ∧ f' = [] := by simpa using h5
        have hh := (f3 rfl _ rfl).symm.trans (f3' rfl _ rfl)
        simp only [List.cons.injEq, true_and] at hh
        obtain ⟨rfl, hz⟩ := ih a (by simp) d' a' (hE' a' (by simp)) _ _ (fol_41 _) (fol_41 _) hh
        clear hh
        have hh := hz
        clear hz
        cases hh
        exact ⟨rfl, rfl⟩
      · obtain ⟨rfl, ⟨a', rfl⟩⟩ : s' = ByteArray.empty ∧ (∃ a, es' = [a]) := by simpa using h5
        have hh := (f4 rfl _ rfl).symm.trans (f4' rfl _ rfl)
        simp only [List.cons.injEq, true_and] at hh
        obtain ⟨rfl, hz⟩ := ih a (by simp) d' a' (hE' a' (by simp)) _ _ (fol_41 _) (fol_41 _) hh
        clear hh
        have hh := hz
        clear hz
        simp only [List.cons.injEq, true_and] at hh
        obtain ⟨rfl, hz⟩ := one_Ss t iht t' d' hT' lv _ _ hh
        clear hh
        have hh := hz
        clear hz
        unfold elseL at hh
        cases f with
        | nil =>
          cases f' with
          | nil =>
            simp at hh
            subst hh
            exact ⟨rfl, rfl⟩
          | cons x' f' => simp at hh
        | cons x f =>
          cases f' with
          | nil => simp at hh
          | cons x' f' =>
            simp only [List.isEmpty_cons, Bool.false_eq_true, if_false, List.cons.injEq, true_and] at hh
            obtain ⟨hf, hz⟩ := one_Ss (x :: f) ihf (x' :: f') d' hF' lv _ _ hh
            clear hh
            have hh := hz
            clear hz
            cases hh
            rw [hf]
            exact ⟨rfl, rfl⟩
      · obtain ⟨rfl, ⟨a', rfl⟩, rfl⟩ : s' = ByteArray.empty ∧ (∃ a, es' = [a]) ∧ f' = [] := by simpa using h5
        have hh := (f5 rfl _ rfl).symm.trans (f5' rfl _ rfl)
        simp only [List.cons.injEq, true_and] at hh
        obtain ⟨rfl, hz⟩ := ih a (by simp) d' a' (hE' a' (by simp)) _ _ (fol_41 _) (fol_41 _) hh
        clear hh
        have hh := hz
        clear hz
        simp only [List.cons.injEq, true_and] at hh
        obtain ⟨rfl, hz⟩ := one_Ss t iht t' d' hT' lv _ _ hh
        clear hh
        have hh := hz
        clear hz
        cases hh
        exact ⟨rfl, rfl⟩
      · obtain ⟨-, -, rfl, rfl⟩ : isE s' = true ∧ es'.length ≤ 6 ∧ t' = [] ∧ f' = [] := by simpa using h5
        obtain ⟨g1, g2⟩ := f6 rfl
        obtain ⟨g1', g2'⟩ := f6' rfl
        have hs := lb_inj (g1.symm.trans g1')
        have hh := g2.symm.trans g2'
        simp only [List.cons.injEq, true_and] at hh
        obtain ⟨rfl, hz⟩ := one_Es es (fun e he => ⟨ih e he, d, h.1 e he⟩) false es' d' hE' _ _ hh
        clear hh
        have hh := hz
        clear hz
        cases hh
        rw [hs]
        exact ⟨rfl, rfl⟩
      · obtain ⟨rfl, h6, rfl, rfl⟩ : s' = ByteArray.empty ∧ (es' = [] ∨ ∃ a, es' = [a]) ∧ t' = [] ∧ f' = [] := by simpa using h5
        rcases h2 with rfl | ⟨a, rfl⟩
        · rcases h6 with rfl | ⟨a', rfl⟩
          · have hh := ((f7 rfl).1 rfl).symm.trans ((f7' rfl).1 rfl)
            cases hh
            exact ⟨rfl, rfl⟩
          · have hh := ((f7 rfl).1 rfl).symm.trans ((f7' rfl).2 _ rfl)
            simp at hh
        · rcases h6 with rfl | ⟨a', rfl⟩
          · have hh := ((f7 rfl).2 _ rfl).symm.trans ((f7' rfl).1 rfl)
            simp at hh
          · have hh := ((f7 rfl).2 _ rfl).symm.trans ((f7' rfl).2 _ rfl)
            simp only [List.cons.injEq, true_and] at hh
            obtain ⟨rfl, hz⟩ := ih a (by simp) d' a' (hE' a' (by simp)) _ _ (fol_59 _) (fol_59 _) hh
            clear hh
            have hh := hz
            clear hz
            cases hh
            exact ⟨rfl, rfl⟩
/-- Names with commas between, and what comes then. -/
def cmL : Bool → List ByteArray → List UInt8
  | _, [] => []
  | c, s :: l => (if c = true then [44, 32] else []) ++ (lb s ++ cmL true l)
theorem cm_tail (l : List ByteArray) : cmL true l = Lib.joinTail [44, 32] (l.map (·.data.toList)) := by
  induction l with
  | nil => rfl
  | cons s l ih =>
    rw [cmL, ih]
    simp [Lib.joinTail, lb]
theorem lb_join (l : List ByteArray) : lb (joinE l ⟨#[44, 32]⟩) = cmL false l := by
  cases l with
  | nil => rfl
  | cons s l =>
    rw [cmL, cm_tail]
    show Lib.join (s.data.toList :: l.map (·.data.toList)) [44, 32] = _
    rw [Lib.join_cons]
    simp [lb]
theorem nof_cm (l : List ByteArray) (b : UInt8) (hb : inE b = false) (u : List UInt8) : nof inE (cmL true l ++ b :: u) := by
  cases l with
  | nil => exact hb
  | cons s l => rfl
theorem one_cm (b : UInt8) (hb : inE b = false) (hb2 : b ≠ 44) : ∀ (l : List ByteArray) (c : Bool) (l' : List ByteArray), (∀ s ∈ l, isE s = true) → (∀ s ∈ l', isE s = true) → ∀ u v, cmL c l ++ b :: u = cmL c l' ++ b :: v → l = l' ∧ u = v
  | [], c, [], _, _, u, v, h => by
    have h : b :: u = b :: v := h
    cases h
    exact ⟨rfl, rfl⟩
  | [], c, s :: l', _, h', u, v, h => by
    exfalso
    obtain ⟨-, -, -, x, t, h4, h5⟩ := isE_is (h' s (by simp))
    rw [cmL, cmL, h4] at h
    cases c with
    | true => simp at h; exact hb2 h.1
    | false =>
      simp at h
      rw [h.1, (letter_in h5).1] at hb
      cases hb
  | s :: l, c, [], h', _, u, v, h => by
    exfalso
    obtain ⟨-, -, -, x, t, h4, h5⟩ := isE_is (h' s (by simp))
    rw [cmL, cmL, h4] at h
    cases c with
    | true => simp at h; exact hb2 h.1.symm
    | false =>
      simp at h
      rw [← h.1, (letter_in h5).1] at hb
      cases hb
  | s :: l, c, s' :: l', h1, h2, u, v, h => by
    rw [cmL, cmL, List.append_assoc, List.append_assoc, List.append_assoc, List.append_assoc] at h
    have h := List.append_cancel_left h
    obtain ⟨hs, hz⟩ := span_one (isE_is (h1 s (by simp))).1 (isE_is (h2 s' (by simp))).1 (nof_cm _ b hb _) (nof_cm _ b hb _) h
    clear h
    have h := hz
    clear hz
    obtain ⟨rfl, rfl⟩ := one_cm b hb hb2 l true l' (fun e he => h1 e (by simp [he])) (fun e he => h2 e (by simp [he])) u v h
    rw [lb_inj hs]
    exact ⟨rfl, rfl⟩
/-- A function that may be. -/
structure RF (f : Fu) : Prop where
  name : isE f.name = true
  params : ∀ s ∈ f.params, isE s = true
  locals : ∀ s ∈ f.locals, isE s = true
  body : ∃ d, ∀ x ∈ f.body, RS d x
def locL (l : List ByteArray) (u : List UInt8) : List UInt8 := if l = [] then u else 32 :: 32 :: 118 :: 97 :: 114 :: 32 :: (cmL false l ++ 59 :: 10 :: u)
def wordL (b : Bool) (u : List UInt8) : List UInt8 := if b = true then 32 :: 119 :: 111 :: 114 :: 100 :: 32 :: 123 :: 10 :: u else 32 :: 123 :: 10 :: u
theorem lb_F (f : Fu) (u : List UInt8) : lb (prF f) ++ u = 102 :: 117 :: 110 :: 99 :: 32 :: (lb f.name ++ 40 :: (cmL false f.params ++ 41 :: wordL f.word (locL f.locals (lb (prSs 1 f.body) ++ (lb (indE 0) ++ 125 :: 10 :: u))))) := by
  unfold prF wordL locL
  simp only [lb_app, lb_join, lb_mk, List.append_assoc]
  cases f.word with
  | false =>
    by_cases hl : f.locals = []
    · simp only [Bool.false_eq_true, if_false, hl, if_true, lb_nil]
      rfl
    · simp only [Bool.false_eq_true, if_false, hl, lb_nil, lb_app, lb_join, lb_mk, List.append_assoc]
      rfl
  | true =>
    by_cases hl : f.locals = []
    · simp only [hl, if_true, lb_nil, lb_mk]
      rfl
    · simp only [if_false, if_true, hl, lb_app, lb_join, lb_mk, List.append_assoc]
      rfl
theorem ss_head {d : Nat} {l : List Sm} (h : ∀ x ∈ l, RS d x) (u : List UInt8) (v : List UInt8) : lb (prSs 1 l) ++ (lb (indE 0) ++ 125 :: u) ≠ 32 :: 32 :: 118 :: 97 :: 114 :: 32 :: v := by
  intro he
  cases l with
  | nil =>
    simp [prSs, lb_nil, lb_ind] at he
  | cons x l =>
    have hx := h x (by simp)
    cases d with
    | zero => exact hx.elim
    | succ d =>
      obtain ⟨k, s, es, t, f⟩ := x
      rw [prSs, lb_app, List.append_assoc] at he
      obtain ⟨w, r, e1, e2, e3, e4, -, f1, f2, f3, f4, f5, f6, f7⟩ := formS hx 1 (lb (prSs 1 l) ++ (lb (indE 0) ++ 125 :: u))
      rw [e1] at he
      have he : w ++ r = [118, 97, 114] ++ (32 :: v) := by
        have : lb (indE 1) = [32, 32] := rfl
        rw [this] at he
        simpa using he
      obtain ⟨rfl, rfl⟩ := span_one e2 (by decide) e3 (nof_c (by decide)) he
      have hk : k = 1 := by rw [← e4, tag_var]
      subst hk
      have hw := (f1 rfl).1
      rcases hx.2.2.2 with ⟨-, h1, -⟩ | h1 | h1 | h1 | h1 | h1 | h1
      · have h3 := (isE_is h1).2.2.1
        rw [show s = ⟨#[118, 97, 114]⟩ from lb_inj hw.symm] at h3
        exact h3 (by simp [wordsL])
      all_goals (have := h1.1; omega)
theorem one_loc {d d' : Nat} {l l' : List Sm} (hl : ∀ x ∈ l, RS d x) (hl' : ∀ x ∈ l', RS d' x) {a b : List ByteArray} (ha : ∀ s ∈ a, isE s = true) (hb : ∀ s ∈ b, isE s = true) {u v : List UInt8}
    (h : locL a (lb (prSs 1 l) ++ (lb (indE 0) ++ 125 :: u)) = locL b (lb (prSs 1 l') ++ (lb (indE 0) ++ 125 :: v))) : a = b ∧ l = l' ∧ u = v := by
  have key : lb (prSs 1 l) ++ (lb (indE 0) ++ 125 :: u) = lb (prSs 1 l') ++ (lb (indE 0) ++ 125 :: v) → l = l' ∧ u = v := fun h => one_Ss l (fun x hx => ⟨one_S d x (hl x hx), d, hl x hx⟩) l' d' hl' 0 u v h
  unfold locL at h
  by_cases h1 : a = []
  · subst h1
    by_cases h2 : b = []
    · subst h2
      simp only [if_true] at h
      exact ⟨rfl, key h⟩
    · rw [if_pos rfl, if_neg h2] at h
      exact (ss_head hl _ _ h).elim
  · by_cases h2 : b = []
    · subst h2
      rw [if_neg h1, if_pos rfl] at h
      exact (ss_head hl' _ _ h.symm).elim
    · rw [if_neg h1, if_neg h2] at h
      simp only [List.cons.injEq, true_and] at h
      obtain ⟨rfl, hz⟩ := one_cm 59 rfl (by decide) a false b ha hb _ _ h
      clear h
      have h := hz
      clear hz
      simp only [List.cons.injEq, true_and] at h
      exact ⟨rfl, key h⟩
theorem one_word {a b : Bool} {u v : List UInt8} (h : wordL a u = wordL b v) : a = b ∧ u = v := by
  unfold wordL at h
  cases a <;> cases b <;> simp at h <;> simp [h]
theorem one_F {f f' : Fu} (h : RF f) (h' : RF f') {u v : List UInt8} (he : lb (prF f) ++ u = lb (prF f') ++ v) : f = f' ∧ u = v := by
  rw [lb_F, lb_F] at he
  simp only [List.cons.injEq, true_and] at he
  obtain ⟨hn, hz⟩ := span_one (isE_is h.name).1 (isE_is h'.name).1 (nof_c (by decide)) (nof_c (by decide)) he
  clear he
  have he := hz
  clear hz
  simp only [List.cons.injEq, true_and] at he
  obtain ⟨hp, hz⟩ := one_cm 41 rfl (by decide) f.params false f'.params h.params h'.params _ _ he
  clear he
  have he := hz
  clear hz
  obtain ⟨hw, hz⟩ := one_word he
  clear he
  have he := hz
  clear hz
  obtain ⟨d, hd⟩ := h.body
  obtain ⟨d', hd'⟩ := h'.body
  obtain ⟨hl, hb, hz⟩ := one_loc hd hd' h.locals h'.locals he
  clear he
  have he := hz
  clear hz
  simp only [List.cons.injEq, true_and] at he
  have hn := lb_inj hn
  obtain ⟨n, p, l, w, b⟩ := f
  obtain ⟨n', p', l', w', b'⟩ := f'
  simp only at hn hp hw hl hb
  subst hn hp hw hl hb
  exact ⟨rfl, he⟩
theorem one_Fs : ∀ (l l' : List Fu), (∀ f ∈ l, RF f) → (∀ f ∈ l', RF f) → lb (prFs l) = lb (prFs l') → l = l'
  | [], [], _, _, _ => rfl
  | [], f :: l, _, _, h => by
    exfalso
    rw [prFs, prFs, lb_app, lb_F] at h
    cases h
  | f :: l, [], _, _, h => by
    exfalso
    rw [prFs, prFs, lb_app, lb_F] at h
    cases h
  | f :: l, f' :: l', h1, h2, h => by
    rw [prFs, prFs, lb_app, lb_app] at h
    obtain ⟨rfl, hz⟩ := one_F (h1 f (by simp)) (h2 f' (by simp)) h
    clear h
    have h := hz
    clear hz
    rw [one_Fs l l' (fun e he => h1 e (by simp [he])) (fun e he => h2 e (by simp [he])) h]
structure RA (a : Ar) : Prop where
  name : isE a.name = true
  lo : 1 ≤ a.size
  hi : a.size ≤ 4096
theorem lb_A (a : Ar) (u : List UInt8) : lb (prA a) ++ u = 97 :: 114 :: 114 :: 97 :: 121 :: 32 :: (lb a.name ++ 91 :: (Lib.decDigits a.size.toNat ++ 93 :: 59 :: 10 :: u)) := by
  unfold prA
  simp only [lb_app, lb_mk, lb_dec, List.append_assoc]
  rfl
theorem one_A {a b : Ar} (h : RA a) (h' : RA b) {u v : List UInt8} (he : lb (prA a) ++ u = lb (prA b) ++ v) : a = b ∧ u = v := by
  rw [lb_A, lb_A] at he
  simp only [List.cons.injEq, true_and] at he
  obtain ⟨hn, hz⟩ := span_one (isE_is h.name).1 (isE_is h'.name).1 (nof_c (by decide)) (nof_c (by decide)) he
  clear he
  have he := hz
  clear hz
  simp only [List.cons.injEq, true_and] at he
  obtain ⟨hd, hz⟩ := span_one (P := digitE) (dec_all _) (dec_all _) (nof_c (by decide)) (nof_c (by decide)) he
  clear he
  have he := hz
  clear hz
  have hd := dec_inj hd
  simp only [List.cons.injEq, true_and] at he
  have hn := lb_inj hn
  have := h.lo
  have := h'.lo
  obtain ⟨n, s⟩ := a
  obtain ⟨n', s'⟩ := b
  simp only at *
  have hs : s = s' := by omega
  rw [hn, hs]
  exact ⟨rfl, he⟩
theorem one_As (u v : List UInt8) : ∀ (l l' : List Ar), (∀ a ∈ l, RA a) → (∀ a ∈ l', RA a) → lb (prAs l) ++ 102 :: u = lb (prAs l') ++ 102 :: v → l = l' ∧ u = v
  | [], [], _, _, h => by
    have h : 102 :: u = 102 :: v := h
    cases h
    exact ⟨rfl, rfl⟩
  | [], a :: l, _, _, h => by
    exfalso
    rw [prAs, prAs, lb_app, List.append_assoc, lb_A] at h
    simp [lb_nil] at h
  | a :: l, [], _, _, h => by
    exfalso
    rw [prAs, prAs, lb_app, List.append_assoc, lb_A] at h
    simp [lb_nil] at h
  | a :: l, a' :: l', h1, h2, h => by
    rw [prAs, prAs, lb_app, lb_app, List.append_assoc, List.append_assoc] at h
    obtain ⟨rfl, hz⟩ := one_A (h1 a (by simp)) (h2 a' (by simp)) h
    clear h
    have h := hz
    clear hz
    obtain ⟨rfl, rfl⟩ := one_As u v l l' (fun e he => h1 e (by simp [he])) (fun e he => h2 e (by simp [he])) h
    exact ⟨rfl, rfl⟩
/-- A program that may be. -/
structure RP (p : Pg) : Prop where
  vars : ∀ s ∈ p.vars, isE s = true
  arrs : ∀ a ∈ p.arrays, RA a
  funs : ∀ f ∈ p.funcs, RF f
  some : p.funcs ≠ []
def varL (l : List ByteArray) (u : List UInt8) : List UInt8 := if l = [] then u else 118 :: 97 :: 114 :: 32 :: (cmL false l ++ 59 :: 10 :: u)
theorem lb_P (p : Pg) : lb (prP p) = varL p.vars (lb (prAs p.arrays) ++ lb (prFs p.funcs)) := by
  unfold prP varL
  by_cases h : p.vars = []
  · simp only [h, if_true, lb_app, lb_nil, List.nil_append]
  · simp only [h, if_false, lb_app, lb_join, lb_mk, List.append_assoc]
    rfl
theorem head_Fs {l : List Fu} (h : l ≠ []) : ∃ t, lb (prFs l) = 102 :: t := by
  cases l with
  | nil => exact absurd rfl h
  | cons f l =>
    rw [prFs, lb_app, lb_F]
    exact ⟨_, rfl⟩
theorem head_v (l : List Ar) (t v : List UInt8) : lb (prAs l) ++ 102 :: t ≠ 118 :: v := by
  intro h
  cases l with
  | nil => simp [prAs, lb_nil] at h
  | cons a l =>
    rw [prAs, lb_app, List.append_assoc, lb_A] at h
    simp at h
/-- Programs that may be have one text just if they are one. -/
theorem one_P {p q : Pg} (hp : RP p) (hq : RP q) (h : prP p = prP q) : p = q := by
  have h := congrArg lb h
  rw [lb_P, lb_P] at h
  obtain ⟨t, ht⟩ := head_Fs hp.some
  obtain ⟨t', ht'⟩ := head_Fs hq.some
  have key : lb (prAs p.arrays) ++ lb (prFs p.funcs) = lb (prAs q.arrays) ++ lb (prFs q.funcs) → p.arrays = q.arrays ∧ p.funcs = q.funcs := fun h => by
    rw [ht, ht'] at h
    obtain ⟨ha, hb⟩ := one_As t t' p.arrays q.arrays hp.arrs hq.arrs h
    exact ⟨ha, one_Fs _ _ hp.funs hq.funs (by rw [ht, ht', hb])⟩
  have : p.vars = q.vars ∧ p.arrays = q.arrays ∧ p.funcs = q.funcs := by
    unfold varL at h
    by_cases h1 : p.vars = []
    · by_cases h2 : q.vars = []
      · rw [if_pos h1, if_pos h2] at h
        exact ⟨by rw [h1, h2], key h⟩
      · rw [if_pos h1, if_neg h2, ht] at h
        exact (head_v _ _ _ h).elim
    · by_cases h2 : q.vars = []
      · rw [if_neg h1, if_pos h2, ht'] at h
        exact (head_v _ _ _ h.symm).elim
      · rw [if_neg h1, if_neg h2] at h
        simp only [List.cons.injEq, true_and] at h
        obtain ⟨hv, hz⟩ := one_cm 59 rfl (by decide) p.vars false q.vars hp.vars hq.vars _ _ h
        clear h
        have h := hz
        clear hz
        simp only [List.cons.injEq, true_and] at h
        exact ⟨hv, key h⟩
  obtain ⟨v, a, f⟩ := p
  obtain ⟨v', a', f'⟩ := q
  simp only at this
  obtain ⟨rfl, rfl, rfl⟩ := this
  rfl
end Go.Proofs.YtddggjmfplohkaaDoor
