import Derived.Test.YtddggjmfplohkaaDoorKe
import Derived.Test.YtddggjmfplohkaaDoorTl
/- How a text that is made of pieces falls into tokens, in plain Lean. -/
namespace Go.Proofs.YtddggjmfplohkaaDoor
open Go Go.RowKit
def stT (t : Tk) : Tk := { t with at_ := 0 }
/-- These bytes are these tokens. -/
inductive LexI : List UInt8 → List Tk → Prop
  | nil : LexI [] []
  | gap {b : UInt8} {u : List UInt8} {ts : List Tk} (hb : b = 32 ∨ b = 10) (h : LexI u ts) : LexI (b :: u) ts
  | tok {t : Tk} {u : List UInt8} {ts : List Tk} (c : UInt8) (r : List UInt8) (hc : lb t.text ++ u = c :: r) (hg : c ≠ 32 ∧ c ≠ 9 ∧ c ≠ 10) (hcm : c ≠ 47 ∨ r.head? ≠ some 47) (h0 : t.text.size ≠ 0) (hat : t.at_ = 0) (hf : ∀ z : ByteArray, lb z = lb t.text ++ u → firstE z = (t, 0)) (h : LexI u ts) : LexI (lb t.text ++ u) (t :: ts)
theorem lb_suf (s : ByteArray) (a : Nat) : lb (s.extract a s.size) = (lb s).drop a := by
  unfold lb
  rw [ByteArray.data_extract, Array.toList_extract]
  simp only [List.extract]
  rw [List.take_of_length_le]
  rw [List.length_drop, Array.length_toList]
  exact Nat.le_refl _
theorem lb_at {s : ByteArray} {a : Nat} {b : UInt8} {u : List UInt8} (h : (lb s).drop a = b :: u) : a < s.size ∧ s.data.getD a 0 = b ∧ (lb s).drop (a + 1) = u := by
  have hl : a < (lb s).length := by
    rcases Nat.lt_or_ge a (lb s).length with h1 | h1
    · exact h1
    · rw [List.drop_eq_nil_of_le h1] at h; cases h
  have h2 := List.drop_eq_getElem_cons hl
  rw [h] at h2
  injection h2 with h3 h4
  refine ⟨by rw [← lb_len]; exact hl, ?_, h4.symm⟩
  have hl' : a < s.data.toList.length := hl
  rw [← ba_get hl']
  exact h3.symm
theorem hp_is (z p : ByteArray) : hpE z p = (lb p).isPrefixOf (lb z) := by
  unfold hpE
  rw [Bool.eq_iff_iff, List.isPrefixOf_iff_prefix]
  simp only [Bool.and_eq_true, decide_eq_true_eq]
  have e : lb (z.extract 0 p.size) = (lb z).take p.size := ext_toList z p.size
  constructor
  · rintro ⟨h1, h2⟩
    rw [h2] at e
    rw [e]
    exact List.take_prefix _ _
  · intro h
    have hl := h.length_le
    rw [lb_len, lb_len] at hl
    refine ⟨hl, lb_inj ?_⟩
    rw [e, ← lb_len p]
    exact (List.prefix_iff_eq_take.1 h).symm
theorem lex_of {s : ByteArray} {u : List UInt8} {ts : List Tk} (h : LexI u ts) : ∀ (a f : Nat), a ≤ s.size → (lb s).drop a = u → s.size < f + a → ∃ r, lexE s f a = .ok r ∧ r.map stT = ts := by
  induction h with
  | nil =>
    intro a f ha hz hf
    cases f with
    | zero => omega
    | succ f =>
      have hl := congrArg List.length hz
      rw [List.length_drop, lb_len] at hl
      simp only [List.length_nil] at hl
      refine ⟨[], ?_, rfl⟩
      rw [lexE, if_neg (by omega)]
  | @gap b u ts hb h ih =>
    intro a f ha hz hf
    cases f with
    | zero => omega
    | succ f =>
      obtain ⟨h1, h2, h3⟩ := lb_at hz
      obtain ⟨r, q1, q2⟩ := ih (a + 1) f (by omega) h3 (by omega)
      refine ⟨r, ?_, q2⟩
      rw [lexE, if_pos h1, h2, if_pos (by rcases hb with rfl | rfl <;> decide)]
      exact q1
  | @tok t u ts c rr hc hg hcm h0 hat hfst h ih =>
    intro a f ha hz hf
    cases f with
    | zero => omega
    | succ f =>
      have hz1 := hz
      rw [hc] at hz1
      obtain ⟨h1, h2, -⟩ := lb_at hz1
      have hz2 : lb (s.extract a s.size) = lb t.text ++ u := by rw [lb_suf]; exact hz
      have hl := congrArg List.length hz
      rw [List.length_drop, List.length_append, lb_len, lb_len] at hl
      have hd : (lb s).drop (a + t.text.size) = u := by
        rw [← List.drop_drop, hz, ← lb_len t.text]
        exact List.drop_left
      obtain ⟨r, q1, q2⟩ := ih (a + t.text.size) f (by omega) hd (by omega)
      have hcmt : hpE (s.extract a s.size) ⟨#[47, 47]⟩ = false := by
        rw [hp_is, hz2, hc, lb_mk]
        cases rr with
        | nil => simp [List.isPrefixOf]
        | cons d rr =>
          simp only [List.isPrefixOf, List.head?_cons, Bool.and_true] at hcm ⊢
          rw [Bool.eq_false_iff]
          intro hh
          simp only [Bool.and_eq_true, beq_iff_eq] at hh
          rcases hcm with h | h
          · exact h hh.1.symm
          · exact h (by rw [← hh.2])
      have hn : ¬ (c.toNat = 32 ∨ c.toNat = 9 ∨ c.toNat = 10) := by
        rintro (e | e | e)
        · exact hg.1 (UInt8.toNat_inj.1 e)
        · exact hg.2.1 (UInt8.toNat_inj.1 e)
        · exact hg.2.2 (UInt8.toNat_inj.1 e)
      refine ⟨{ t with at_ := (a : Int) } :: r, ?_, ?_⟩
      · rw [lexE, if_pos h1, h2, if_neg hn, if_neg (by rw [hcmt]; decide), hfst _ hz2]
        simp only
        simp only [if_true, q1]
      · rw [List.map_cons, q2]
        congr 1
        obtain ⟨k, x, n, a0⟩ := t
        simp only at hat
        subst hat
        rfl
def tN (s : ByteArray) : Tk := ⟨1, s, 0, 0⟩
def tD (n : Nat) : Tk := ⟨2, decE n, UInt32.ofNat n, 0⟩
def tW (s : ByteArray) : Tk := ⟨3, s, 0, 0⟩
def tS (s : ByteArray) : Tk := ⟨4, s, 0, 0⟩
theorem tw_app {P : UInt8 → Bool} : ∀ {a u : List UInt8}, (∀ x ∈ a, P x = true) → nof P u → (a ++ u).takeWhile P = a
  | [], [], _, _ => rfl
  | [], b :: u, _, h => by
    have h : P b = false := h
    rw [List.nil_append, List.takeWhile_cons, h]
    rfl
  | x :: a, u, h, hu => by
    rw [List.cons_append, List.takeWhile_cons, h x (by simp), if_pos rfl, tw_app (fun y hy => h y (by simp [hy])) hu]
theorem head_at {z : ByteArray} {c : UInt8} {r : List UInt8} (h : lb z = c :: r) : z.data.getD 0 0 = c := (lb_at (s := z) (a := 0) (by rw [List.drop_zero]; exact h)).2.1
theorem let_not {c : UInt8} (h : letterE c = true) : c.toNat ≠ 39 ∧ c ≠ 32 ∧ c ≠ 9 ∧ c ≠ 10 ∧ c ≠ 47 := by
  refine ⟨fun e => ?_, ?_, ?_, ?_, ?_⟩
  · unfold letterE at h
    rw [e] at h
    cases h
  · rintro rfl; cases h
  · rintro rfl; cases h
  · rintro rfl; cases h
  · rintro rfl; cases h
theorem first_name {z s : ByteArray} {u : List UInt8} {c : UInt8} {t : List UInt8} (hall : ∀ x ∈ lb s, inE x = true) (hc : lb s = c :: t) (hl : letterE c = true) (hu : nof inE u) (hz : lb z = lb s ++ u) : firstE z = nameOfE s := by
  have h0 : z.data.getD 0 0 = c := head_at (r := t ++ u) (by rw [hz, hc]; rfl)
  unfold firstE
  rw [h0, (letter_in hl).2, if_neg (by decide), if_neg (let_not hl).1, if_pos hl]
  congr 1
  refine lb_inj ?_
  have := fr_toList inE z
  have e : lb z = z.data.toList := rfl
  rw [← e, hz, tw_app hall hu] at this
  exact this
theorem lxN {s : ByteArray} {u : List UInt8} {ts : List Tk} (hs : isE s = true) (hu : nof inE u) (h : LexI u ts) : LexI (lb s ++ u) (tN s :: ts) := by
  obtain ⟨h1, h2, h3, c, t, h4, h5⟩ := isE_is hs
  have hn := let_not h5
  refine LexI.tok (t := tN s) c (t ++ u) (by show lb s ++ u = _; rw [h4]; rfl) ⟨hn.2.1, hn.2.2.1, hn.2.2.2.1⟩ (.inl hn.2.2.2.2) ?_ rfl (fun z hz => ?_) h
  · show s.size ≠ 0
    rw [← lb_len, h4]
    simp
  · rw [first_name h1 h4 h5 hu hz]
    unfold nameOfE
    rw [if_pos h2, hasB_f h3, if_neg (by decide)]
    rfl
theorem words_is : ∀ w ∈ wordsL, ((lb w).all inE && decide (w.size ≤ 20) && (match lb w with | [] => false | c :: _ => letterE c)) = true := by decide
theorem lxW {s : ByteArray} {u : List UInt8} {ts : List Tk} (hs : s ∈ wordsL) (hu : nof inE u) (h : LexI u ts) : LexI (lb s ++ u) (tW s :: ts) := by
  have hw := words_is s hs
  cases h4 : lb s with
  | nil => rw [h4] at hw; simp at hw
  | cons c t =>
    have hw2 := hw
    rw [h4] at hw2
    simp only [Bool.and_eq_true, decide_eq_true_eq, List.all_eq_true] at hw hw2
    have h5 := hw2.2
    have h1 := hw.1.1
    have hn := let_not h5
    rw [← h4]
    refine LexI.tok (t := tW s) c (t ++ u) (by show lb s ++ u = _; rw [h4]; rfl) ⟨hn.2.1, hn.2.2.1, hn.2.2.2.1⟩ (.inl hn.2.2.2.2) ?_ rfl (fun z hz => ?_) h
    · show s.size ≠ 0
      rw [← lb_len, h4]
      simp
    · rw [first_name h1 h4 h5 hu hz]
      unfold nameOfE
      rw [if_pos hw.1.2, hasB_t hs, if_pos rfl]
      rfl
theorem fold_le : ∀ (l : List UInt8) (n : Nat), n ≤ l.foldl (fun a x => a * 10 + (x.toNat - 48)) n
  | [], n => Nat.le_refl _
  | b :: l, n => by
    have := fold_le l (n * 10 + (b.toNat - 48))
    rw [List.foldl_cons]
    omega
theorem nu_val : ∀ (l : List UInt8) (n : Nat), l.foldl (fun a x => a * 10 + (x.toNat - 48)) n ≤ 4294967295 → nuE l n = some (l.foldl (fun a x => a * 10 + (x.toNat - 48)) n)
  | [], n, _ => rfl
  | b :: l, n, h => by
    rw [List.foldl_cons] at h ⊢
    have := fold_le l (n * 10 + (b.toNat - 48))
    rw [nuE, if_pos (by omega)]
    exact nu_val l _ h
theorem dig_not {c : UInt8} (h : digitE c = true) : c ≠ 32 ∧ c ≠ 9 ∧ c ≠ 10 ∧ c ≠ 47 := by
  refine ⟨?_, ?_, ?_, ?_⟩ <;> (rintro rfl; cases h)
theorem lxD {n : Nat} {u : List UInt8} {ts : List Tk} (hn : n < 4294967296) (hu : nof digitE u) (h : LexI u ts) : LexI (Lib.decDigits n ++ u) (tD n :: ts) := by
  obtain ⟨c, t, h4, h5⟩ := dec_cons n
  have hn2 := dig_not h5
  have hlb : lb (decE n) = Lib.decDigits n := lb_dec n
  rw [← hlb]
  rw [← hlb] at h4
  refine LexI.tok (t := tD n) c (t ++ u) (by show lb (decE n) ++ u = _; rw [h4]; rfl) ⟨hn2.1, hn2.2.1, hn2.2.2.1⟩ (.inl hn2.2.2.2) ?_ rfl (fun z hz => ?_) h
  · show (decE n).size ≠ 0
    rw [← lb_len, h4]
    simp
  · have h0 : z.data.getD 0 0 = c := head_at (r := t ++ u) (by rw [hz]; show lb (decE n) ++ u = _; rw [h4]; rfl)
    have hex : z.extract 0 (frN digitE z) = decE n := by
      refine lb_inj ?_
      have := fr_toList digitE z
      have e : lb z = z.data.toList := rfl
      rw [← e, hz] at this
      rw [show lb (z.extract 0 (frN digitE z)) = (lb (tD n).text ++ u).takeWhile digitE from this]
      exact tw_app (fun x hx => dec_all n x (by rw [← hlb]; exact hx)) hu
    unfold firstE
    rw [h0, if_pos h5, hex]
    unfold numberOfE
    have hv := val_dec n
    unfold valL at hv
    have e2 : (decE n).data.toList = Lib.decDigits n := hlb
    rw [e2, nu_val _ _ (by rw [hv]; omega), hv]
    rfl
theorem first_sign {z g : ByteArray} {c : UInt8} {r : List UInt8} (hz : lb z = c :: r) (hc : digitE c = false ∧ c.toNat ≠ 39 ∧ letterE c = false) (hg : fdE z tsignsL = some g) : firstE z = (tS g, 0) := by
  unfold firstE
  rw [head_at hz, hc.1, if_neg (by decide), if_neg hc.2.1, hc.2.2, if_neg (by decide), hg]
  rfl
/-- Signs of one byte with which no other sign begins. -/
theorem lx1 {c : UInt8} {u : List UInt8} {ts : List Tk} (hc : c ∈ ([40, 41, 123, 125, 91, 93, 59, 44, 43, 45, 42, 37, 94, 33] : List UInt8)) (h : LexI u ts) : LexI (c :: u) (tS ⟨#[c]⟩ :: ts) := by
  refine LexI.tok (t := tS ⟨#[c]⟩) c u rfl ?_ ?_ (by show (1 : Nat) ≠ 0; decide) rfl (fun z hz => ?_) h
  · simp only [List.mem_cons, List.not_mem_nil, or_false] at hc
    rcases hc with rfl | rfl | rfl | rfl | rfl | rfl | rfl | rfl | rfl | rfl | rfl | rfl | rfl | rfl <;> decide
  · refine .inl ?_
    simp only [List.mem_cons, List.not_mem_nil, or_false] at hc
    rcases hc with rfl | rfl | rfl | rfl | rfl | rfl | rfl | rfl | rfl | rfl | rfl | rfl | rfl | rfl <;> decide
  · have hz : lb z = c :: u := hz
    refine first_sign hz ?_ ?_
    · simp only [List.mem_cons, List.not_mem_nil, or_false] at hc
      rcases hc with rfl | rfl | rfl | rfl | rfl | rfl | rfl | rfl | rfl | rfl | rfl | rfl | rfl | rfl <;> decide
    · simp only [List.mem_cons, List.not_mem_nil, or_false] at hc
      rcases hc with rfl | rfl | rfl | rfl | rfl | rfl | rfl | rfl | rfl | rfl | rfl | rfl | rfl | rfl <;>
        simp [fdE, tsignsL, hp_is, hz, lb_mk, List.isPrefixOf]
/-- Signs of one byte that stand ahead of a blank. -/
theorem lx1b {c : UInt8} {u : List UInt8} {ts : List Tk} (hc : c ∈ ([61, 38, 124, 60, 47] : List UInt8)) (h : LexI (32 :: u) ts) : LexI (c :: 32 :: u) (tS ⟨#[c]⟩ :: ts) := by
  refine LexI.tok (t := tS ⟨#[c]⟩) c (32 :: u) rfl ?_ (.inr (by simp)) (by show (1 : Nat) ≠ 0; decide) rfl (fun z hz => ?_) h
  · simp only [List.mem_cons, List.not_mem_nil, or_false] at hc
    rcases hc with rfl | rfl | rfl | rfl | rfl <;> decide
  · have hz : lb z = c :: 32 :: u := hz
    refine first_sign hz ?_ ?_
    · simp only [List.mem_cons, List.not_mem_nil, or_false] at hc
      rcases hc with rfl | rfl | rfl | rfl | rfl <;> decide
    · simp only [List.mem_cons, List.not_mem_nil, or_false] at hc
      rcases hc with rfl | rfl | rfl | rfl | rfl <;>
        simp [fdE, tsignsL, hp_is, hz, lb_mk, List.isPrefixOf]
/-- Signs of two bytes. -/
theorem lx2 {c : UInt8} {u : List UInt8} {ts : List Tk} (hc : c ∈ ([60, 62, 61, 38, 124] : List UInt8)) (h : LexI u ts) : LexI (c :: c :: u) (tS ⟨#[c, c]⟩ :: ts) := by
  refine LexI.tok (t := tS ⟨#[c, c]⟩) c (c :: u) rfl ?_ ?_ (by show (2 : Nat) ≠ 0; decide) rfl (fun z hz => ?_) h
  · simp only [List.mem_cons, List.not_mem_nil, or_false] at hc
    rcases hc with rfl | rfl | rfl | rfl | rfl <;> decide
  · refine .inl ?_
    simp only [List.mem_cons, List.not_mem_nil, or_false] at hc
    rcases hc with rfl | rfl | rfl | rfl | rfl <;> decide
  · have hz : lb z = c :: c :: u := hz
    refine first_sign hz ?_ ?_
    · simp only [List.mem_cons, List.not_mem_nil, or_false] at hc
      rcases hc with rfl | rfl | rfl | rfl | rfl <;> decide
    · simp only [List.mem_cons, List.not_mem_nil, or_false] at hc
      rcases hc with rfl | rfl | rfl | rfl | rfl <;>
        simp [fdE, tsignsL, hp_is, hz, lb_mk, List.isPrefixOf]
theorem lxB {u : List UInt8} {ts : List Tk} (h : LexI u ts) : LexI (32 :: u) ts := .gap (.inl rfl) h
theorem lxL {u : List UInt8} {ts : List Tk} (h : LexI u ts) : LexI (10 :: u) ts := .gap (.inr rfl) h
end Go.Proofs.YtddggjmfplohkaaDoor

/- The tokens of a printed program, in plain Lean. -/
namespace Go.Proofs.YtddggjmfplohkaaDoor
open Go Go.RowKit
mutual
/-- An expression's tokens. -/
def tkE : Ex → List Tk
  | .mk k o n s ks =>
    if k = 1 then [tD n.toNat] else if k = 2 then [tN s]
    else if k = 3 then tN s :: tS ⟨#[91]⟩ :: (tkEs false ks ++ [tS ⟨#[93]⟩])
    else if k = 4 then tN s :: tS ⟨#[40]⟩ :: (tkEs false ks ++ [tS ⟨#[41]⟩])
    else if k = 5 then [tW ⟨#[103, 101, 116]⟩, tS ⟨#[40]⟩, tS ⟨#[41]⟩]
    else if k = 7 then tS ⟨#[33]⟩ :: tkEs false ks
    else tkB (tS (sgE k o)) ks
def tkB : Tk → List Ex → List Tk
  | _, [] => []
  | g, a :: r => tS ⟨#[40]⟩ :: (tkE a ++ g :: (tkEs false r ++ [tS ⟨#[41]⟩]))
def tkEs : Bool → List Ex → List Tk
  | _, [] => []
  | c, e :: l => (if c = true then [tS ⟨#[44]⟩] else []) ++ (tkE e ++ tkEs true l)
end
theorem tk_e1 (a : Ex) : tkEs false [a] = tkE a := by simp [tkEs]
def LxE (e : Ex) : Prop := ∀ u ts, fol u → LexI u ts → LexI (lb (prE e) ++ u) (tkE e ++ ts)
theorem fol_dig {u : List UInt8} (h : fol u) : nof digitE u := by
  cases u with
  | nil => trivial
  | cons b u =>
    show digitE b = false
    rcases h with rfl | rfl | rfl | rfl | rfl <;> rfl
theorem lex_Es : ∀ (l : List Ex), (∀ e ∈ l, LxE e) → ∀ (c : Bool) u ts, LexI (41 :: u) ts → LexI (lb (prEs c l) ++ 41 :: u) (tkEs c l ++ ts)
  | [], _, c, u, ts, h => by
    rw [show prEs c [] = ByteArray.empty by cases c <;> rfl, lb_nil, show tkEs c [] = [] by cases c <;> rfl]
    exact h
  | e :: l, hl, c, u, ts, h => by
    have h1 := lex_Es l (fun x hx => hl x (by simp [hx])) true u ts h
    have h2 := hl e (by simp) _ _ (fol_es l u) h1
    rw [lb_es, tkEs]
    simp only [List.append_assoc]
    cases c with
    | false => exact h2
    | true => exact lx1 (by decide) (lxB h2)
theorem lxG {k o : Int} (hb : binK k o) {u : List UInt8} {ts : List Tk} (h : LexI (32 :: u) ts) : LexI (lb (sgE k o) ++ 32 :: u) (tS (sgE k o) :: ts) := by
  have hm := (sg_is hb).2
  generalize sgE k o = g at *
  have key : ∀ x : Array UInt8, lb g = x.toList → g = ⟨x⟩ := fun x hx => lb_inj hx
  simp only [List.mem_cons, List.not_mem_nil, or_false] at hm
  rcases hm with e | e | e | e | e | e | e | e | e | e | e | e | e | e
  · rw [key #[43] e]; exact lx1 (by decide) h
  · rw [key #[45] e]; exact lx1 (by decide) h
  · rw [key #[42] e]; exact lx1 (by decide) h
  · rw [key #[47] e]; exact lx1b (by decide) h
  · rw [key #[37] e]; exact lx1 (by decide) h
  · rw [key #[38] e]; exact lx1b (by decide) h
  · rw [key #[124] e]; exact lx1b (by decide) h
  · rw [key #[94] e]; exact lx1 (by decide) h
  · rw [key #[60, 60] e]; exact lx2 (by decide) h
  · rw [key #[62, 62] e]; exact lx2 (by decide) h
  · rw [key #[60] e]; exact lx1b (by decide) h
  · rw [key #[61, 61] e]; exact lx2 (by decide) h
  · rw [key #[38, 38] e]; exact lx2 (by decide) h
  · rw [key #[124, 124] e]; exact lx2 (by decide) h
theorem tk_bin {k o : Int} (h : binK k o) (n : UInt32) (s : ByteArray) (a b : Ex) : tkE (.mk k o n s [a, b]) = tS ⟨#[40]⟩ :: (tkE a ++ tS (sgE k o) :: (tkE b ++ [tS ⟨#[41]⟩])) := by
  unfold binK at h
  rw [tkE, if_neg (by omega), if_neg (by omega), if_neg (by omega), if_neg (by omega), if_neg (by omega), if_neg (by omega), tkB, tk_e1]
theorem lex_E : ∀ (d : Nat) (e : Ex), RE d e → LxE e
  | 0, _, h => h.elim
  | d + 1, .mk k o n s ks, h => by
    intro u ts hu hl
    have ih : ∀ a ∈ ks, LxE a := fun a ha => lex_E d a (h.1 a ha)
    rcases h.2 with ⟨rfl, rfl, rfl, rfl⟩ | ⟨rfl, rfl, rfl, h1, rfl⟩ | ⟨rfl, rfl, rfl, h1, a, rfl⟩ | ⟨rfl, rfl, rfl, h1, h2⟩ | ⟨rfl, rfl, rfl, rfl, rfl⟩ | ⟨rfl, rfl, rfl, rfl, a, rfl⟩ | ⟨hb, rfl, rfl, a, b, rfl⟩
    · exact lxD n.toNat_lt (fol_dig hu) hl
    · exact lxN h1 (fol_nof hu) hl
    · have e1 : lb (prE (.mk 3 0 0 s [a])) ++ u = lb s ++ 91 :: (lb (prE a) ++ 93 :: u) := by
        rw [show prE (.mk 3 0 0 s [a]) = s ++ ⟨#[91]⟩ ++ prEs false [a] ++ ⟨#[93]⟩ from rfl]
        simp only [lb_app, lb_e1, lb_mk, List.append_assoc]
        rfl
      have e2 : tkE (.mk 3 0 0 s [a]) ++ ts = tN s :: tS ⟨#[91]⟩ :: (tkE a ++ tS ⟨#[93]⟩ :: ts) := by
        rw [show tkE (.mk 3 0 0 s [a]) = tN s :: tS ⟨#[91]⟩ :: (tkEs false [a] ++ [tS ⟨#[93]⟩]) from rfl, tk_e1]
        simp
      rw [e1, e2]
      exact lxN h1 (nof_c (by decide)) (lx1 (by decide) (ih a (by simp) _ _ (fol_93 _) (lx1 (by decide) hl)))
    · have e1 : lb (prE (.mk 4 0 0 s ks)) ++ u = lb s ++ 40 :: (lb (prEs false ks) ++ 41 :: u) := by
        rw [show prE (.mk 4 0 0 s ks) = s ++ ⟨#[40]⟩ ++ prEs false ks ++ ⟨#[41]⟩ from rfl]
        simp only [lb_app, lb_mk, List.append_assoc]
        rfl
      have e2 : tkE (.mk 4 0 0 s ks) ++ ts = tN s :: tS ⟨#[40]⟩ :: (tkEs false ks ++ tS ⟨#[41]⟩ :: ts) := by
        rw [show tkE (.mk 4 0 0 s ks) = tN s :: tS ⟨#[40]⟩ :: (tkEs false ks ++ [tS ⟨#[41]⟩]) from rfl]
        simp
      rw [e1, e2]
      exact lxN h1 (nof_c (by decide)) (lx1 (by decide) (lex_Es ks ih false _ _ (lx1 (by decide) hl)))
    · exact lxW (s := ⟨#[103, 101, 116]⟩) (by simp [wordsL]) (nof_c (by decide)) (lx1 (by decide) (lx1 (by decide) hl))
    · have e1 : lb (prE (.mk 7 0 0 ByteArray.empty [a])) ++ u = 33 :: (lb (prE a) ++ u) := by
        rw [show prE (.mk 7 0 0 ByteArray.empty [a]) = ⟨#[33]⟩ ++ prEs false [a] from rfl]
        simp only [lb_app, lb_e1, lb_mk, List.append_assoc]
        rfl
      have e2 : tkE (.mk 7 0 0 ByteArray.empty [a]) ++ ts = tS ⟨#[33]⟩ :: (tkE a ++ ts) := by
        rw [show tkE (.mk 7 0 0 ByteArray.empty [a]) = tS ⟨#[33]⟩ :: tkEs false [a] from rfl, tk_e1]
        rfl
      rw [e1, e2]
      exact lx1 (by decide) (ih a (by simp) _ _ hu hl)
    · rw [prE_bin hb, tk_bin hb]
      have h3 := ih b (by simp) (41 :: u) _ (fol_41 _) (lx1 (by decide) hl)
      have h4 := ih a (by simp) (32 :: (lb (sgE k o) ++ 32 :: (lb (prE b) ++ 41 :: u))) _ (fol_32 _) (lxB (lxG hb (lxB h3)))
      have h5 := lx1 (c := 40) (by decide) h4
      simpa using h5
mutual
/-- A statement's tokens. -/
def tkS : Sm → List Tk
  | .mk k s es t f =>
    if k = 1 then tN s :: tS ⟨#[61]⟩ :: (tkEs false es ++ [tS ⟨#[59]⟩])
    else if k = 2 then match es with
      | [] => []
      | a :: r => tN s :: tS ⟨#[91]⟩ :: (tkE a ++ tS ⟨#[93]⟩ :: tS ⟨#[61]⟩ :: (tkEs false r ++ [tS ⟨#[59]⟩]))
    else if k = 3 then tW ⟨#[112, 117, 116]⟩ :: tS ⟨#[40]⟩ :: (tkEs false es ++ [tS ⟨#[41]⟩, tS ⟨#[59]⟩])
    else if k = 6 then tN s :: tS ⟨#[40]⟩ :: (tkEs false es ++ [tS ⟨#[41]⟩, tS ⟨#[59]⟩])
    else if k = 7 then tW ⟨#[114, 101, 116, 117, 114, 110]⟩ :: (tkEs false es ++ [tS ⟨#[59]⟩])
    else (if k = 5 then tW ⟨#[119, 104, 105, 108, 101]⟩ else tW ⟨#[105, 102]⟩) :: tS ⟨#[40]⟩ :: (tkEs false es ++ tS ⟨#[41]⟩ :: tS ⟨#[123]⟩ :: (tkSs t ++ tS ⟨#[125]⟩ ::
      (if f.isEmpty = true then [] else tW ⟨#[101, 108, 115, 101]⟩ :: tS ⟨#[123]⟩ :: (tkSs f ++ [tS ⟨#[125]⟩]))))
def tkSs : List Sm → List Tk
  | [] => []
  | x :: l => tkS x ++ tkSs l
end
theorem lx_rep {u : List UInt8} {ts : List Tk} (h : LexI u ts) : ∀ n, LexI (List.replicate n 32 ++ u) ts
  | 0 => h
  | n + 1 => lxB (lx_rep h n)
theorem lx_ind {u : List UInt8} {ts : List Tk} (lv : Nat) (h : LexI u ts) : LexI (lb (indE lv) ++ u) ts := by
  rw [lb_ind]
  exact lx_rep h _
def LxS (x : Sm) : Prop := ∀ lv u ts, LexI u ts → LexI (lb (prS lv x) ++ u) (tkS x ++ ts)
theorem lex_Ss : ∀ (l : List Sm), (∀ x ∈ l, LxS x) → ∀ lv u ts, LexI u ts → LexI (lb (prSs lv l) ++ u) (tkSs l ++ ts)
  | [], _, lv, u, ts, h => by
    rw [show prSs lv [] = ByteArray.empty from rfl, lb_nil]
    exact h
  | x :: l, hl, lv, u, ts, h => by
    rw [prSs, lb_app, tkSs, List.append_assoc, List.append_assoc]
    exact hl x (by simp) lv _ _ (lex_Ss l (fun y hy => hl y (by simp [hy])) lv _ _ h)
theorem lex_S : ∀ (d : Nat) (x : Sm), RS d x → LxS x
  | 0, _, h => h.elim
  | d + 1, .mk k s es t f, h => by
    intro lv u ts hl
    have iE : ∀ a ∈ es, LxE a := fun a ha => lex_E d a (h.1 a ha)
    have iT : ∀ a ∈ t, LxS a := fun a ha => lex_S d a (h.2.1 a ha)
    have iF : ∀ a ∈ f, LxS a := fun a ha => lex_S d a (h.2.2.1 a ha)
    rcases h.2.2.2 with ⟨rfl, h1, ⟨a, rfl⟩, rfl, rfl⟩ | ⟨rfl, h1, ⟨a, b, rfl⟩, rfl, rfl⟩ | ⟨rfl, rfl, ⟨a, rfl⟩, rfl, rfl⟩ | ⟨rfl, rfl, ⟨a, rfl⟩⟩ | ⟨rfl, rfl, ⟨a, rfl⟩, rfl⟩ | ⟨rfl, h1, h2, rfl, rfl⟩ | ⟨rfl, rfl, h2, rfl, rfl⟩
    · have e1 : lb (prS lv (.mk 1 s [a] [] [])) ++ u = lb (indE lv) ++ (lb s ++ 32 :: 61 :: 32 :: (lb (prE a) ++ 59 :: 10 :: u)) := by
        rw [show prS lv (.mk 1 s [a] [] []) = indE lv ++ (s ++ ⟨#[32, 61, 32]⟩) ++ prEs false [a] ++ ⟨#[59]⟩ ++ ⟨#[10]⟩ from rfl]
        simp only [lb_app, lb_e1, lb_mk, List.append_assoc]
        rfl
      have e2 : tkS (.mk 1 s [a] [] []) ++ ts = tN s :: tS ⟨#[61]⟩ :: (tkE a ++ tS ⟨#[59]⟩ :: ts) := by
        rw [show tkS (.mk 1 s [a] [] []) = tN s :: tS ⟨#[61]⟩ :: (tkEs false [a] ++ [tS ⟨#[59]⟩]) from rfl, tk_e1]
        simp
      rw [e1, e2]
      exact lx_ind lv (lxN h1 (nof_c (by decide)) (lxB (lx1b (by decide) (lxB (iE a (by simp) _ _ (fol_59 _) (lx1 (by decide) (lxL hl)))))))
    · have e1 : lb (prS lv (.mk 2 s [a, b] [] [])) ++ u = lb (indE lv) ++ (lb s ++ 91 :: (lb (prE a) ++ 93 :: 32 :: 61 :: 32 :: (lb (prE b) ++ 59 :: 10 :: u))) := by
        rw [show prS lv (.mk 2 s [a, b] [] []) = indE lv ++ (s ++ ⟨#[91]⟩) ++ prE a ++ ⟨#[93, 32, 61, 32]⟩ ++ prEs false [b] ++ ⟨#[59]⟩ ++ ⟨#[10]⟩ from rfl]
        simp only [lb_app, lb_e1, lb_mk, List.append_assoc]
        rfl
      have e2 : tkS (.mk 2 s [a, b] [] []) ++ ts = tN s :: tS ⟨#[91]⟩ :: (tkE a ++ tS ⟨#[93]⟩ :: tS ⟨#[61]⟩ :: (tkE b ++ tS ⟨#[59]⟩ :: ts)) := by
        rw [show tkS (.mk 2 s [a, b] [] []) = tN s :: tS ⟨#[91]⟩ :: (tkE a ++ tS ⟨#[93]⟩ :: tS ⟨#[61]⟩ :: (tkEs false [b] ++ [tS ⟨#[59]⟩])) from rfl, tk_e1]
        simp
      rw [e1, e2]
      exact lx_ind lv (lxN h1 (nof_c (by decide)) (lx1 (by decide) (iE a (by simp) _ _ (fol_93 _) (lx1 (by decide) (lxB (lx1b (by decide) (lxB (iE b (by simp) _ _ (fol_59 _) (lx1 (by decide) (lxL hl))))))))))
    · have e1 : lb (prS lv (.mk 3 ByteArray.empty [a] [] [])) ++ u = lb (indE lv) ++ (lb (⟨#[112, 117, 116]⟩ : ByteArray) ++ 40 :: (lb (prE a) ++ 41 :: 59 :: 10 :: u)) := by
        rw [show prS lv (.mk 3 ByteArray.empty [a] [] []) = indE lv ++ ⟨#[112, 117, 116, 40]⟩ ++ prEs false [a] ++ ⟨#[41, 59]⟩ ++ ⟨#[10]⟩ from rfl]
        simp only [lb_app, lb_e1, lb_mk, List.append_assoc]
        rfl
      have e2 : tkS (.mk 3 ByteArray.empty [a] [] []) ++ ts = tW ⟨#[112, 117, 116]⟩ :: tS ⟨#[40]⟩ :: (tkE a ++ tS ⟨#[41]⟩ :: tS ⟨#[59]⟩ :: ts) := by
        rw [show tkS (.mk 3 ByteArray.empty [a] [] []) = tW ⟨#[112, 117, 116]⟩ :: tS ⟨#[40]⟩ :: (tkEs false [a] ++ [tS ⟨#[41]⟩, tS ⟨#[59]⟩]) from rfl, tk_e1]
        simp
      rw [e1, e2]
      exact lx_ind lv (lxW (by simp [wordsL]) (nof_c (by decide)) (lx1 (by decide) (iE a (by simp) _ _ (fol_41 _) (lx1 (by decide) (lx1 (by decide) (lxL hl))))))
    · have hbody : ∀ v tv, LexI v tv → LexI (lb (prSs (lv + 1) t) ++ (lb (indE lv) ++ 125 :: v)) (tkSs t ++ tS ⟨#[125]⟩ :: tv) := fun v tv hv => lex_Ss t iT _ _ _ (lx_ind lv (lx1 (by decide) hv))
      have hhead : ∀ v tv, LexI v tv → LexI (lb (indE lv) ++ (lb (⟨#[105, 102]⟩ : ByteArray) ++ 32 :: 40 :: (lb (prE a) ++ 41 :: 32 :: 123 :: 10 :: v))) (tW ⟨#[105, 102]⟩ :: tS ⟨#[40]⟩ :: (tkE a ++ tS ⟨#[41]⟩ :: tS ⟨#[123]⟩ :: tv)) := fun v tv hv =>
        lx_ind lv (lxW (by simp [wordsL]) (nof_c (by decide)) (lxB (lx1 (by decide) (iE a (by simp) _ _ (fol_41 _) (lx1 (by decide) (lxB (lx1 (by decide) (lxL hv))))))))
      cases f with
      | nil =>
        have e1 : lb (prS lv (.mk 4 ByteArray.empty [a] t [])) ++ u = lb (indE lv) ++ (lb (⟨#[105, 102]⟩ : ByteArray) ++ 32 :: 40 :: (lb (prE a) ++ 41 :: 32 :: 123 :: 10 :: (lb (prSs (lv + 1) t) ++ (lb (indE lv) ++ 125 :: 10 :: u)))) := by
          rw [show prS lv (.mk 4 ByteArray.empty [a] t []) = indE lv ++ ⟨#[105, 102, 32, 40]⟩ ++ prEs false [a] ++ ⟨#[41, 32, 123]⟩ ++ ⟨#[10]⟩ ++ prSs (lv + 1) t ++ ByteArray.empty ++ indE lv ++ ⟨#[125]⟩ ++ ⟨#[10]⟩ from rfl]
          simp only [lb_app, lb_e1, lb_mk, lb_nil, List.append_assoc, List.nil_append]
          rfl
        have e2 : tkS (.mk 4 ByteArray.empty [a] t []) ++ ts = tW ⟨#[105, 102]⟩ :: tS ⟨#[40]⟩ :: (tkE a ++ tS ⟨#[41]⟩ :: tS ⟨#[123]⟩ :: (tkSs t ++ tS ⟨#[125]⟩ :: ts)) := by
          rw [show tkS (.mk 4 ByteArray.empty [a] t []) = tW ⟨#[105, 102]⟩ :: tS ⟨#[40]⟩ :: (tkEs false [a] ++ tS ⟨#[41]⟩ :: tS ⟨#[123]⟩ :: (tkSs t ++ tS ⟨#[125]⟩ :: [])) from rfl, tk_e1]
          simp
        rw [e1, e2]
        exact hhead _ _ (hbody _ _ (lxL hl))
      | cons x f =>
        have e1 : lb (prS lv (.mk 4 ByteArray.empty [a] t (x :: f))) ++ u = lb (indE lv) ++ (lb (⟨#[105, 102]⟩ : ByteArray) ++ 32 :: 40 :: (lb (prE a) ++ 41 :: 32 :: 123 :: 10 :: (lb (prSs (lv + 1) t) ++ (lb (indE lv) ++ 125 :: 32 :: (lb (⟨#[101, 108, 115, 101]⟩ : ByteArray) ++ 32 :: 123 :: 10 :: (lb (prSs (lv + 1) (x :: f)) ++ (lb (indE lv) ++ 125 :: 10 :: u))))))) := by
          rw [show prS lv (.mk 4 ByteArray.empty [a] t (x :: f)) = indE lv ++ ⟨#[105, 102, 32, 40]⟩ ++ prEs false [a] ++ ⟨#[41, 32, 123]⟩ ++ ⟨#[10]⟩ ++ prSs (lv + 1) t ++ (indE lv ++ ⟨#[125, 32, 101, 108, 115, 101, 32, 123]⟩ ++ ⟨#[10]⟩ ++ prSs (lv + 1) (x :: f)) ++ indE lv ++ ⟨#[125]⟩ ++ ⟨#[10]⟩ from rfl]
          simp only [lb_app, lb_e1, lb_mk, List.append_assoc]
          rfl
        have e2 : tkS (.mk 4 ByteArray.empty [a] t (x :: f)) ++ ts = tW ⟨#[105, 102]⟩ :: tS ⟨#[40]⟩ :: (tkE a ++ tS ⟨#[41]⟩ :: tS ⟨#[123]⟩ :: (tkSs t ++ tS ⟨#[125]⟩ :: tW ⟨#[101, 108, 115, 101]⟩ :: tS ⟨#[123]⟩ :: (tkSs (x :: f) ++ tS ⟨#[125]⟩ :: ts))) := by
          rw [show tkS (.mk 4 ByteArray.empty [a] t (x :: f)) = tW ⟨#[105, 102]⟩ :: tS ⟨#[40]⟩ :: (tkEs false [a] ++ tS ⟨#[41]⟩ :: tS ⟨#[123]⟩ :: (tkSs t ++ tS ⟨#[125]⟩ :: tW ⟨#[101, 108, 115, 101]⟩ :: tS ⟨#[123]⟩ :: (tkSs (x :: f) ++ [tS ⟨#[125]⟩]))) from rfl, tk_e1]
          simp
        rw [e1, e2]
        exact hhead _ _ (hbody _ _ (lxB (lxW (by simp [wordsL]) (nof_c (by decide)) (lxB (lx1 (by decide) (lxL (lex_Ss (x :: f) iF _ _ _ (lx_ind lv (lx1 (by decide) (lxL hl))))))))))
    · have e1 : lb (prS lv (.mk 5 ByteArray.empty [a] t [])) ++ u = lb (indE lv) ++ (lb (⟨#[119, 104, 105, 108, 101]⟩ : ByteArray) ++ 32 :: 40 :: (lb (prE a) ++ 41 :: 32 :: 123 :: 10 :: (lb (prSs (lv + 1) t) ++ (lb (indE lv) ++ 125 :: 10 :: u)))) := by
        rw [show prS lv (.mk 5 ByteArray.empty [a] t []) = indE lv ++ ⟨#[119, 104, 105, 108, 101, 32, 40]⟩ ++ prEs false [a] ++ ⟨#[41, 32, 123]⟩ ++ ⟨#[10]⟩ ++ prSs (lv + 1) t ++ ByteArray.empty ++ indE lv ++ ⟨#[125]⟩ ++ ⟨#[10]⟩ from rfl]
        simp only [lb_app, lb_e1, lb_mk, lb_nil, List.append_assoc, List.nil_append]
        rfl
      have e2 : tkS (.mk 5 ByteArray.empty [a] t []) ++ ts = tW ⟨#[119, 104, 105, 108, 101]⟩ :: tS ⟨#[40]⟩ :: (tkE a ++ tS ⟨#[41]⟩ :: tS ⟨#[123]⟩ :: (tkSs t ++ tS ⟨#[125]⟩ :: ts)) := by
        rw [show tkS (.mk 5 ByteArray.empty [a] t []) = tW ⟨#[119, 104, 105, 108, 101]⟩ :: tS ⟨#[40]⟩ :: (tkEs false [a] ++ tS ⟨#[41]⟩ :: tS ⟨#[123]⟩ :: (tkSs t ++ tS ⟨#[125]⟩ :: [])) from rfl, tk_e1]
        simp
      rw [e1, e2]
      exact lx_ind lv (lxW (by simp [wordsL]) (nof_c (by decide)) (lxB (lx1 (by decide) (iE a (by simp) _ _ (fol_41 _) (lx1 (by decide) (lxB (lx1 (by decide) (lxL (lex_Ss t iT _ _ _ (lx_ind lv (lx1 (by decide) (lxL hl))))))))))))
    · have e1 : lb (prS lv (.mk 6 s es [] [])) ++ u = lb (indE lv) ++ (lb s ++ 40 :: (lb (prEs false es) ++ 41 :: 59 :: 10 :: u)) := by
        rw [show prS lv (.mk 6 s es [] []) = indE lv ++ (s ++ ⟨#[40]⟩) ++ prEs false es ++ ⟨#[41, 59]⟩ ++ ⟨#[10]⟩ from rfl]
        simp only [lb_app, lb_mk, List.append_assoc]
        rfl
      have e2 : tkS (.mk 6 s es [] []) ++ ts = tN s :: tS ⟨#[40]⟩ :: (tkEs false es ++ tS ⟨#[41]⟩ :: tS ⟨#[59]⟩ :: ts) := by
        rw [show tkS (.mk 6 s es [] []) = tN s :: tS ⟨#[40]⟩ :: (tkEs false es ++ [tS ⟨#[41]⟩, tS ⟨#[59]⟩]) from rfl]
        simp
      rw [e1, e2]
      exact lx_ind lv (lxN h1 (nof_c (by decide)) (lx1 (by decide) (lex_Es es iE false _ _ (lx1 (by decide) (lx1 (by decide) (lxL hl))))))
    · rcases h2 with rfl | ⟨a, rfl⟩
      · have e1 : lb (prS lv (.mk 7 ByteArray.empty [] [] [])) ++ u = lb (indE lv) ++ (lb (⟨#[114, 101, 116, 117, 114, 110]⟩ : ByteArray) ++ 59 :: 10 :: u) := by
          rw [show prS lv (.mk 7 ByteArray.empty [] [] []) = indE lv ++ ⟨#[114, 101, 116, 117, 114, 110]⟩ ++ ByteArray.empty ++ ⟨#[59]⟩ ++ ⟨#[10]⟩ from rfl]
          simp only [lb_app, lb_mk, lb_nil, List.append_assoc, List.nil_append]
          rfl
        rw [e1]
        exact lx_ind lv (lxW (by simp [wordsL]) (nof_c (by decide)) (lx1 (by decide) (lxL hl)))
      · have e1 : lb (prS lv (.mk 7 ByteArray.empty [a] [] [])) ++ u = lb (indE lv) ++ (lb (⟨#[114, 101, 116, 117, 114, 110]⟩ : ByteArray) ++ 32 :: (lb (prE a) ++ 59 :: 10 :: u)) := by
          rw [show prS lv (.mk 7 ByteArray.empty [a] [] []) = indE lv ++ ⟨#[114, 101, 116, 117, 114, 110]⟩ ++ (⟨#[32]⟩ ++ prEs false [a]) ++ ⟨#[59]⟩ ++ ⟨#[10]⟩ from rfl]
          simp only [lb_app, lb_e1, lb_mk, List.append_assoc]
          rfl
        have e2 : tkS (.mk 7 ByteArray.empty [a] [] []) ++ ts = tW ⟨#[114, 101, 116, 117, 114, 110]⟩ :: (tkE a ++ tS ⟨#[59]⟩ :: ts) := by
          rw [show tkS (.mk 7 ByteArray.empty [a] [] []) = tW ⟨#[114, 101, 116, 117, 114, 110]⟩ :: (tkEs false [a] ++ [tS ⟨#[59]⟩]) from rfl, tk_e1]
          simp
        rw [e1, e2]
        exact lx_ind lv (lxW (by simp [wordsL]) (nof_c (by decide)) (lxB (iE a (by simp) _ _ (fol_59 _) (lx1 (by decide) (lxL hl)))))
def tkM : Bool → List ByteArray → List Tk
  | _, [] => []
  | c, s :: l => (if c = true then [tS ⟨#[44]⟩] else []) ++ (tN s :: tkM true l)
theorem lex_cm {b : UInt8} (hb : inE b = false) {u : List UInt8} {ts : List Tk} (h : LexI (b :: u) ts) : ∀ (l : List ByteArray), (∀ s ∈ l, isE s = true) → ∀ (c : Bool), LexI (cmL c l ++ b :: u) (tkM c l ++ ts)
  | [], _, c => by cases c <;> exact h
  | s :: l, hl, c => by
    have h1 := lex_cm hb h l (fun x hx => hl x (by simp [hx])) true
    have h2 := lxN (hl s (by simp)) (nof_cm l b hb u) h1
    rw [cmL, tkM]
    simp only [List.append_assoc, List.cons_append]
    cases c with
    | false => exact h2
    | true => exact lx1 (by decide) (lxB h2)
def tkL (l : List ByteArray) : List Tk := if l = [] then [] else tW ⟨#[118, 97, 114]⟩ :: (tkM false l ++ [tS ⟨#[59]⟩])
def tkF (f : Fu) : List Tk :=
  tW ⟨#[102, 117, 110, 99]⟩ :: tN f.name :: tS ⟨#[40]⟩ :: (tkM false f.params ++ tS ⟨#[41]⟩ :: ((if f.word = true then [tW ⟨#[119, 111, 114, 100]⟩] else []) ++ tS ⟨#[123]⟩ :: (tkL f.locals ++ (tkSs f.body ++ [tS ⟨#[125]⟩]))))
def tkA (a : Ar) : List Tk := [tW ⟨#[97, 114, 114, 97, 121]⟩, tN a.name, tS ⟨#[91]⟩, tD a.size.toNat, tS ⟨#[93]⟩, tS ⟨#[59]⟩]
def tkAs : List Ar → List Tk
  | [] => []
  | a :: l => tkA a ++ tkAs l
def tkFs : List Fu → List Tk
  | [] => []
  | f :: l => tkF f ++ tkFs l
/-- A program's tokens. -/
def tkP (p : Pg) : List Tk := tkL p.vars ++ (tkAs p.arrays ++ tkFs p.funcs)
theorem lx_var {l : List ByteArray} (hl : ∀ s ∈ l, isE s = true) {u : List UInt8} {ts : List Tk} (h : LexI u ts) : LexI (118 :: 97 :: 114 :: 32 :: (cmL false l ++ 59 :: 10 :: u)) (tW ⟨#[118, 97, 114]⟩ :: (tkM false l ++ tS ⟨#[59]⟩ :: ts)) :=
  lxW (s := ⟨#[118, 97, 114]⟩) (by simp [wordsL]) (nof_c (by decide)) (lxB (lex_cm (by decide) (lx1 (by decide) (lxL h)) l hl false))
theorem lex_F {f : Fu} (hf : RF f) {u : List UInt8} {ts : List Tk} (h : LexI u ts) : LexI (lb (prF f) ++ u) (tkF f ++ ts) := by
  obtain ⟨d, hb⟩ := hf.body
  have h1 : LexI (lb (prSs 1 f.body) ++ (lb (indE 0) ++ 125 :: 10 :: u)) (tkSs f.body ++ tS ⟨#[125]⟩ :: ts) := lex_Ss f.body (fun x hx => lex_S d x (hb x hx)) 1 _ _ (lx_ind 0 (lx1 (by decide) (lxL h)))
  have h2 : LexI (locL f.locals (lb (prSs 1 f.body) ++ (lb (indE 0) ++ 125 :: 10 :: u))) (tkL f.locals ++ (tkSs f.body ++ tS ⟨#[125]⟩ :: ts)) := by
    unfold locL tkL
    split
    · exact h1
    · have := lxB (lxB (lx_var hf.locals h1))
      simpa using this
  have h3 : LexI (wordL f.word (locL f.locals (lb (prSs 1 f.body) ++ (lb (indE 0) ++ 125 :: 10 :: u)))) ((if f.word = true then [tW ⟨#[119, 111, 114, 100]⟩] else []) ++ tS ⟨#[123]⟩ :: (tkL f.locals ++ (tkSs f.body ++ tS ⟨#[125]⟩ :: ts))) := by
    unfold wordL
    split
    · exact lxB (lxW (s := ⟨#[119, 111, 114, 100]⟩) (by simp [wordsL]) (nof_c (by decide)) (lxB (lx1 (by decide) (lxL h2))))
    · exact lxB (lx1 (by decide) (lxL h2))
  have h4 := lxW (s := ⟨#[102, 117, 110, 99]⟩) (by simp [wordsL]) (nof_c (by decide)) (lxB (lxN hf.name (nof_c (by decide)) (lx1 (c := 40) (by decide) (lex_cm (b := 41) (by decide) (lx1 (by decide) h3) f.params hf.params false))))
  rw [lb_F]
  have e : tkF f ++ ts = tW ⟨#[102, 117, 110, 99]⟩ :: tN f.name :: tS ⟨#[40]⟩ :: (tkM false f.params ++ tS ⟨#[41]⟩ :: ((if f.word = true then [tW ⟨#[119, 111, 114, 100]⟩] else []) ++ tS ⟨#[123]⟩ :: (tkL f.locals ++ (tkSs f.body ++ tS ⟨#[125]⟩ :: ts)))) := by
    unfold tkF
    simp
  rw [e]
  exact h4
theorem lex_Fs : ∀ (l : List Fu), (∀ f ∈ l, RF f) → LexI (lb (prFs l)) (tkFs l)
  | [], _ => .nil
  | f :: l, h => by
    rw [prFs, lb_app, tkFs]
    exact lex_F (h f (by simp)) (lex_Fs l fun x hx => h x (by simp [hx]))
theorem lex_A {a : Ar} (ha : RA a) {u : List UInt8} {ts : List Tk} (h : LexI u ts) : LexI (lb (prA a) ++ u) (tkA a ++ ts) := by
  have h1 := ha.lo
  have h2 := ha.hi
  rw [lb_A]
  exact lxW (s := ⟨#[97, 114, 114, 97, 121]⟩) (by simp [wordsL]) (nof_c (by decide)) (lxB (lxN ha.name (nof_c (by decide)) (lx1 (by decide) (lxD (by omega) (nof_c (by decide)) (lx1 (by decide) (lx1 (by decide) (lxL h)))))))
theorem lex_As {u : List UInt8} {ts : List Tk} (h : LexI u ts) : ∀ (l : List Ar), (∀ a ∈ l, RA a) → LexI (lb (prAs l) ++ u) (tkAs l ++ ts)
  | [], _ => h
  | a :: l, hl => by
    rw [prAs, lb_app, tkAs, List.append_assoc, List.append_assoc]
    exact lex_A (hl a (by simp)) (lex_As h l fun x hx => hl x (by simp [hx]))
/-- A printed program falls into its tokens. -/
theorem lex_P {p : Pg} (hp : RP p) : LexI (lb (prP p)) (tkP p) := by
  have h1 := lex_As (lex_Fs p.funcs hp.funs) p.arrays hp.arrs
  rw [lb_P]
  unfold varL tkP tkL
  split
  · exact h1
  · have := lx_var hp.vars h1
    simpa using this
end Go.Proofs.YtddggjmfplohkaaDoor
