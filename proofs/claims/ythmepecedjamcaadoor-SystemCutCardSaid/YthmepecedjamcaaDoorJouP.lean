import Derived.Test.YthmepecedjamcaaDoorSto
/- Records as bytes that may be cut anywhere, as plain functions; no program is named here. -/
namespace Go.Proofs.YthmepecedjamcaaDoor
open Go.RowKit
/-- How many, as bytes; what the digest is of; the digest's bytes; all bytes of a record. -/
def recH (n : Nat) : List UInt8 := bytesE [UInt32.ofNat n]
def recF (r : List UInt8) : List UInt8 := recH r.length ++ r
def recS (r : List UInt8) : List UInt8 := bytesE (digE ⟨(recF r).toArray⟩).1
def recB (r : List UInt8) : List UInt8 := recH r.length ++ (recS r ++ r)
def putB (l : List (List UInt8)) : List UInt8 := (l.map recB).flatten
theorem recH_len (n : Nat) : (recH n).length = 4 := by unfold recH; rw [bytesE_length]; rfl
theorem recS_len (r : List UInt8) : (recS r).length = 16 := by unfold recS; rw [bytesE_length, (digE _).2]
theorem recB_len (r : List UInt8) : (recB r).length = 20 + r.length := by
  unfold recB; rw [List.length_append, List.length_append, recH_len, recS_len]; omega
theorem putB_nil : putB [] = [] := rfl
theorem putB_cons (r : List UInt8) (l : List (List UInt8)) : putB (r :: l) = recB r ++ putB l := rfl
theorem putB_app (l l' : List (List UInt8)) : putB (l ++ l') = putB l ++ putB l' := by simp [putB]
/-- How many bytes the first four say. -/
def numE (s : List UInt8) : Nat := (s.getD 0 0).toNat + 256 * (s.getD 1 0).toNat + 65536 * (s.getD 2 0).toNat + 16777216 * (s.getD 3 0).toNat
theorem le4_num (w : Nat) (h : w < 4294967296) (t : List UInt8) : numE (le4 w ++ t) = w := by
  unfold numE le4
  simp [List.getD, UInt8.toNat_ofNat']
  omega
theorem recH_num (n : Nat) (h : n < 4294967296) (t : List UInt8) : numE (recH n ++ t) = n := by
  unfold recH
  rw [bytesE_one, le4_num _ (UInt32.toNat_lt _), UInt32.toNat_ofNat', Nat.mod_eq_of_lt h]
theorem num_recH (s : List UInt8) (h : 4 ≤ s.length) : recH (numE s) = s.take 4 := by
  match s, h with
  | a :: b :: c :: d :: s, _ =>
    unfold recH
    rw [bytesE_one]
    have ha := a.toNat_lt; have hb := b.toNat_lt; have hc := c.toNat_lt; have hd := d.toNat_lt
    have e : (UInt32.ofNat (numE (a :: b :: c :: d :: s))).toNat = a.toNat + 256 * b.toNat + 65536 * c.toNat + 16777216 * d.toNat := by
      rw [UInt32.toNat_ofNat', Nat.mod_eq_of_lt]
      · rfl
      · unfold numE; simp [List.getD]; omega
    rw [e]
    show le4 _ = [a, b, c, d]
    unfold le4
    simp only [List.cons.injEq, and_true]
    refine ⟨?_, ?_, ?_, ?_⟩ <;> (apply UInt8.toNat_inj.1; rw [UInt8.toNat_ofNat']; omega)
theorem numE_lt (s : List UInt8) : numE s < 4294967296 := by
  unfold numE
  have h0 := (s.getD 0 0).toNat_lt; have h1 := (s.getD 1 0).toNat_lt; have h2 := (s.getD 2 0).toNat_lt; have h3 := (s.getD 3 0).toNat_lt
  omega
/-- Does a whole record stand at the front, and which one? -/
def firstE (s : List UInt8) : Option (List UInt8) :=
  if s.length < 20 then none
  else if s.length - 20 < numE s then none
  else if (s.drop 4).take 16 = bytesE (digE ⟨(s.take 4 ++ (s.drop 20).take (numE s)).toArray⟩).1 then some ((s.drop 20).take (numE s)) else none
theorem first_rec (r t : List UInt8) (h : r.length < 4294967296) : firstE (recB r ++ t) = some r := by
  have hn : numE (recB r ++ t) = r.length := by
    unfold recB; rw [List.append_assoc, recH_num _ h]
  have hl : (recB r ++ t).length = 20 + r.length + t.length := by rw [List.length_append, recB_len]
  have h4 : (recB r ++ t).take 4 = recH r.length := by
    unfold recB
    rw [List.append_assoc, List.take_left' (recH_len _)]
  have h16 : ((recB r ++ t).drop 4).take 16 = recS r := by
    unfold recB
    rw [List.append_assoc, List.drop_left' (recH_len _), List.append_assoc, List.take_left' (recS_len _)]
  have h20 : (recB r ++ t).drop 20 = r ++ t := by
    unfold recB
    have e : 20 = 4 + 16 := rfl
    rw [e, ← List.drop_drop, List.append_assoc, List.drop_left' (recH_len _), List.append_assoc, List.drop_left' (recS_len _)]
  unfold firstE
  rw [if_neg (by omega), if_neg (by omega), hn, h20, h4, h16, List.take_left' rfl]
  exact if_pos rfl
theorem first_spec {s r : List UInt8} (h : firstE s = some r) : r.length < 4294967296 ∧ ∃ t, s = recB r ++ t := by
  unfold firstE at h
  split at h
  · cases h
  · split at h
    · cases h
    · split at h
      · rename_i h1 h2 h3
        have hr : r = (s.drop 20).take (numE s) := by injection h with h; exact h.symm
        have hrl : r.length = numE s := by rw [hr, List.length_take, List.length_drop]; omega
        have h4 : s.take 4 = recH r.length := by rw [hrl, num_recH s (by omega)]
        refine ⟨by rw [hrl]; exact numE_lt s, s.drop (20 + r.length), ?_⟩
        rw [← hr, h4] at h3
        have e1 : s = s.take 4 ++ ((s.drop 4).take 16 ++ ((s.drop 20).take (numE s) ++ s.drop (20 + r.length))) := by
          have a1 : s = s.take 4 ++ s.drop 4 := (List.take_append_drop 4 s).symm
          have a2 : s.drop 4 = (s.drop 4).take 16 ++ s.drop 20 := by
            have := (List.take_append_drop 16 (s.drop 4)).symm
            rwa [List.drop_drop] at this
          have a3 : s.drop 20 = (s.drop 20).take (numE s) ++ s.drop (20 + r.length) := by
            have := (List.take_append_drop (numE s) (s.drop 20)).symm
            rw [List.drop_drop] at this
            rw [hrl]
            exact this
          rw [← a3, ← a2, ← a1]
        rw [← hr, h4, h3] at e1
        unfold recB recS recF
        rw [List.append_assoc, List.append_assoc]
        exact e1
      · cases h
theorem first_iff {s r : List UInt8} : firstE s = some r ↔ r.length < 4294967296 ∧ ∃ t, s = recB r ++ t :=
  ⟨first_spec, fun ⟨h, t, e⟩ => by rw [e]; exact first_rec r t h⟩
/-- All whole records from the front, so many at most, and how far they go. -/
def readE : Nat → List UInt8 → List (List UInt8) × Nat
  | 0, _ => ([], 0)
  | n + 1, s => match firstE s with
    | none => ([], 0)
    | some r => (r :: (readE n (s.drop (20 + r.length))).1, 20 + r.length + (readE n (s.drop (20 + r.length))).2)
theorem readE_none {n : Nat} {s : List UInt8} (h : firstE s = none) : readE n s = ([], 0) := by
  cases n with
  | zero => rfl
  | succ n => unfold readE; rw [h]
theorem readE_some {n : Nat} {s r : List UInt8} (h : firstE s = some r) : readE (n + 1) s = (r :: (readE n (s.drop (20 + r.length))).1, 20 + r.length + (readE n (s.drop (20 + r.length))).2) := by
  conv => lhs; unfold readE
  rw [h]
theorem readE_rec {n : Nat} {r t : List UInt8} (h : r.length < 4294967296) : readE (n + 1) (recB r ++ t) = (r :: (readE n t).1, 20 + r.length + (readE n t).2) := by
  rw [readE_some (first_rec r t h), List.drop_left' (recB_len r)]
def okL (l : List (List UInt8)) : Prop := ∀ r ∈ l, r.length < 4294967296
/-- Records that were put are read, and what stands behind them. -/
theorem read_put : ∀ {l : List (List UInt8)} {n : Nat} (t : List UInt8), okL l → l.length ≤ n → readE n (putB l ++ t) = (l ++ (readE (n - l.length) t).1, (putB l).length + (readE (n - l.length) t).2)
  | [], n, t, _, _ => by simp [putB_nil]
  | r :: l, 0, t, _, hn => by simp at hn
  | r :: l, n + 1, t, h, hn => by
    rw [putB_cons, List.append_assoc, readE_rec (h r (by simp)), read_put t (fun x hx => h x (by simp [hx])) (by simpa using hn)]
    simp only [List.length_cons, List.length_append, recB_len, List.cons_append, Nat.add_sub_add_right, Prod.mk.injEq, true_and]
    omega
/-- What was read, put again, is what the bytes begin with. -/
theorem put_read : ∀ (n : Nat) (s : List UInt8), okL (readE n s).1 ∧ (readE n s).1.length ≤ n ∧ (readE n s).2 = (putB (readE n s).1).length ∧ ∃ t, s = putB (readE n s).1 ++ t ∧ (firstE t = none ∨ (readE n s).1.length = n)
  | 0, s => ⟨fun r hr => by simp [readE] at hr, Nat.le_refl _, rfl, s, rfl, .inr rfl⟩
  | n + 1, s => by
    cases hf : firstE s with
    | none =>
      rw [readE_none hf]
      exact ⟨fun r hr => (by cases hr), Nat.zero_le _, rfl, s, rfl, .inl hf⟩
    | some r =>
      obtain ⟨h1, t, rfl⟩ := first_spec hf
      obtain ⟨k1, k2, k3, t', k4, k5⟩ := put_read n t
      rw [readE_rec h1]
      refine ⟨fun x hx => ?_, by simpa using k2, ?_, t', ?_, ?_⟩
      · rcases List.mem_cons.1 hx with rfl | hx
        · exact h1
        · exact k1 x hx
      · rw [putB_cons, List.length_append, recB_len, k3]
      · rw [putB_cons, List.append_assoc, ← k4]
      · rcases k5 with k5 | k5
        · exact .inl k5
        · exact .inr (by simp [k5])
/-- Of one row of bytes at most one record stands at the front. -/
theorem rec_head {r r' t t' : List UInt8} (h : r.length < 4294967296) (h' : r'.length < 4294967296) (k : Nat) (hk : 4 ≤ k) (he : (recB r ++ t).take k = (recB r' ++ t').take k) : r.length = r'.length := by
  have e4 := congrArg (List.take 4) he
  rw [List.take_take, List.take_take, Nat.min_eq_left hk] at e4
  have a : ∀ (x y : List UInt8), (recB x ++ y).take 4 = recH x.length := fun x y => by
    unfold recB; rw [List.append_assoc, List.take_left' (recH_len _)]
  rw [a, a] at e4
  have b := congrArg numE e4
  have c := recH_num r.length h []
  have d := recH_num r'.length h' []
  rw [List.append_nil] at c d
  rw [c, d] at b
  exact b
/-- A record that is cut isn't read. -/
theorem first_cut {r t : List UInt8} (h : r.length < 4294967296) {k : Nat} (hk : k < 20 + r.length) : firstE ((recB r ++ t).take k) = none := by
  cases hf : firstE ((recB r ++ t).take k) with
  | none => rfl
  | some r' =>
    obtain ⟨h1, t', e⟩ := first_spec hf
    have hl := congrArg List.length e
    rw [List.length_take, List.length_append, List.length_append, recB_len, recB_len] at hl
    have hk' : k = 20 + r'.length + t'.length := by omega
    have e2 : (recB r ++ t).take k = (recB r' ++ t').take k := by
      rw [e, List.take_of_length_le]
      rw [List.length_append, recB_len]; omega
    have := rec_head h h1 k (by omega) e2
    omega
/-- How many records, and bytes, are whole in the first ones. -/
def wholeE : List (List UInt8) → Nat → Nat × Nat
  | [], _ => (0, 0)
  | r :: l, at_ => if 20 + r.length ≤ at_ then ((wholeE l (at_ - (20 + r.length))).1 + 1, 20 + r.length + (wholeE l (at_ - (20 + r.length))).2) else (0, 0)
theorem wholeE_le : ∀ (l : List (List UInt8)) (k : Nat), (wholeE l k).1 ≤ l.length
  | [], _ => Nat.le_refl _
  | r :: l, k => by
    unfold wholeE
    split
    · have := wholeE_le l (k - (20 + r.length))
      simp only [List.length_cons]; omega
    · exact Nat.zero_le _
/-- Cut anywhere, just those are read that are whole. -/
theorem read_cut : ∀ (l : List (List UInt8)) (k n : Nat), okL l → l.length ≤ n → k ≤ (putB l).length → readE n ((putB l).take k) = (l.take (wholeE l k).1, (wholeE l k).2)
  | [], k, n, _, _, _ => by
    rw [putB_nil, List.take_nil, readE_none (by unfold firstE; rw [if_pos (by simp)])]
    rfl
  | r :: l, k, 0, _, hn, _ => by simp at hn
  | r :: l, k, n + 1, h, hn, hk => by
    rw [putB_cons] at hk ⊢
    unfold wholeE
    by_cases hw : 20 + r.length ≤ k
    · rw [if_pos hw]
      rw [List.length_append, recB_len] at hk
      have e : (recB r ++ putB l).take k = recB r ++ (putB l).take (k - (20 + r.length)) := by
        rw [List.take_append, recB_len, List.take_of_length_le (by rw [recB_len]; exact hw)]
      rw [e, readE_rec (h r (by simp)), read_cut l (k - (20 + r.length)) n (fun x hx => h x (by simp [hx])) (by simpa using hn) (by omega)]
      rfl
    · rw [if_neg hw, readE_none (first_cut (h r (by simp)) (by omega))]
      rfl
theorem bytesE_inj4 {a b : List UInt32} (ha : a.length = b.length) (h : bytesE a = bytesE b) : a = b := by
  induction a generalizing b with
  | nil => exact (List.eq_nil_of_length_eq_zero (by simpa using ha.symm)).symm
  | cons x a ih =>
    cases b with
    | nil => simp at ha
    | cons y b =>
      have e1 : bytesE (x :: a) = le4 x.toNat ++ bytesE a := by rw [show x :: a = [x] ++ a from rfl, bytesE_append, bytesE_one]
      have e2 : bytesE (y :: b) = le4 y.toNat ++ bytesE b := by rw [show y :: b = [y] ++ b from rfl, bytesE_append, bytesE_one]
      rw [e1, e2] at h
      have hl : (le4 x.toNat).length = (le4 y.toNat).length := rfl
      obtain ⟨h1, h2⟩ := List.append_inj h hl
      have hx := le4_num x.toNat (UInt32.toNat_lt _) []
      have hy := le4_num y.toNat (UInt32.toNat_lt _) []
      rw [h1, hy] at hx
      rw [UInt32.toNat_inj.1 hx.symm, ih (by simpa using ha) h2]
theorem recS_eq {r r' : List UInt8} (h : recS r = recS r') : digE ⟨(recF r).toArray⟩ = digE ⟨(recF r').toArray⟩ :=
  Subtype.ext (bytesE_inj4 (by rw [(digE _).2, (digE _).2]) h)
theorem recF_take (r : List UInt8) : (recF r).take 4 = recH r.length := List.take_left' (recH_len _)
theorem recF_drop (r : List UInt8) : (recF r).drop 4 = r := List.drop_left' (recH_len _)
theorem rec_parts (r t : List UInt8) : (recB r ++ t).take 4 = recH r.length ∧ ((recB r ++ t).drop 4).take 16 = recS r ∧ (recB r ++ t).drop 20 = r ++ t := by
  refine ⟨?_, ?_, ?_⟩
  · unfold recB; rw [List.append_assoc, List.take_left' (recH_len _)]
  · unfold recB
    rw [List.append_assoc, List.drop_left' (recH_len _), List.append_assoc, List.take_left' (recS_len _)]
  · unfold recB
    have e : 20 = 4 + 16 := rfl
    rw [e, ← List.drop_drop, List.append_assoc, List.drop_left' (recH_len _), List.append_assoc, List.drop_left' (recS_len _)]
theorem set_ne {α : Type} {l : List α} {k : Nat} {v : α} (hk : k < l.length) (hv : l[k]? ≠ some v) : l.set k v ≠ l := fun h => hv (by
  have := congrArg (fun x : List α => x[k]?) h
  simp only [List.getElem?_set_self hk] at this
  exact this.symm)
/-- A record that was spoilt: either none is read there, or two unlike rows of bytes have one digest. -/
theorem first_spoilt {r t r' : List UInt8} {k : Nat} {v : UInt8} (hr : r.length < 4294967296) (hk : k < 20 + r.length) (hv : (recB r)[k]? ≠ some v) (hf : firstE ((recB r ++ t).set k v) = some r') : recF r ≠ recF r' ∧ digE ⟨(recF r).toArray⟩ = digE ⟨(recF r').toArray⟩ := by
  obtain ⟨h1, t', e⟩ := first_spec hf
  obtain ⟨a1, a2, a3⟩ := rec_parts r t
  obtain ⟨b1, b2, b3⟩ := rec_parts r' t'
  rw [← e] at b1 b2 b3
  have hlen : (recB r ++ t).length = 20 + r.length + t.length := by rw [List.length_append, recB_len]
  have hvt : (recB r ++ t)[k]? ≠ some v := by rw [List.getElem?_append_left (by rw [recB_len]; exact hk)]; exact hv
  rcases Nat.lt_or_ge k 4 with h4 | h4
  · -- the length was changed
    rw [List.drop_set, if_pos h4] at b2
    rw [a2] at b2
    refine ⟨fun he => ?_, recS_eq b2⟩
    have : recH r.length = recH r'.length := by rw [← recF_take r, he, recF_take]
    rw [← this, ← a1, List.take_set] at b1
    refine set_ne (l := (recB r ++ t).take 4) (k := k) (v := v) (by rw [List.length_take]; omega) ?_ b1
    rw [List.getElem?_take_of_lt h4]; exact hvt
  · rw [List.take_set, List.set_eq_of_length_le (by rw [List.length_take]; omega), a1] at b1
    have hn : r.length = r'.length := by
      have c := recH_num r.length hr []
      have d := recH_num r'.length h1 []
      rw [List.append_nil] at c d
      rw [← c, b1, d]
    rcases Nat.lt_or_ge k 20 with h20 | h20
    · -- the digest was changed
      exfalso
      rw [List.drop_set, if_pos h20, a3] at b3
      have e3 : r = r' := (List.append_inj b3 hn).1
      subst e3
      rw [List.drop_set, if_neg (by omega), List.take_set, a2] at b2
      refine set_ne (l := recS r) (k := k - 4) (v := v) (by rw [recS_len]; omega) ?_ b2
      have : (recB r ++ t)[k]? = (recS r)[k - 4]? := by
        rw [← a2, List.getElem?_take_of_lt (by omega), List.getElem?_drop, show 4 + (k - 4) = k by omega]
      rw [← this]; exact hvt
    · -- the record was changed
      rw [List.drop_set, if_neg (by omega), a3] at b3
      rw [List.drop_set, if_neg (by omega), List.take_set, List.set_eq_of_length_le (by rw [List.length_take, List.length_drop, hlen]; omega), a2] at b2
      refine ⟨fun he => ?_, recS_eq b2⟩
      have e3 : r = r' := by rw [← recF_drop r, he, recF_drop]
      subst e3
      rw [List.set_append_left (h := by omega)] at b3
      have e4 := (List.append_inj b3 (by simp)).1
      refine set_ne (l := r) (k := k - 20) (v := v) (by omega) ?_ e4
      have : (recB r ++ t)[k]? = r[k - 20]? := by
        have h5 : ((recB r ++ t).drop 20)[k - 20]? = (r ++ t)[k - 20]? := by rw [a3]
        rw [List.getElem?_drop, show 20 + (k - 20) = k by omega] at h5
        rw [h5, List.getElem?_append_left (by omega)]
      rw [← this]; exact hvt
/-- With a byte changed all records ahead of it are read as they were; and no more, or two unlike rows have one digest. -/
theorem read_spoilt : ∀ (l : List (List UInt8)) (k n : Nat) (v : UInt8), okL l → l.length ≤ n → k < (putB l).length → (putB l)[k]? ≠ some v →
    (wholeE l k).1 < l.length ∧ (wholeE l k).1 ≤ (readE n ((putB l).set k v)).1.length ∧ (readE n ((putB l).set k v)).1.take (wholeE l k).1 = l.take (wholeE l k).1 ∧
      (((readE n ((putB l).set k v)).1.length = (wholeE l k).1 ∧ (readE n ((putB l).set k v)).2 = (wholeE l k).2) ∨
        ((wholeE l k).1 < (readE n ((putB l).set k v)).1.length ∧ recF (l.getD (wholeE l k).1 []) ≠ recF ((readE n ((putB l).set k v)).1.getD (wholeE l k).1 []) ∧
          digE ⟨(recF (l.getD (wholeE l k).1 [])).toArray⟩ = digE ⟨(recF ((readE n ((putB l).set k v)).1.getD (wholeE l k).1 [])).toArray⟩))
  | [], k, n, v, _, _, hk, _ => by simp [putB_nil] at hk
  | r :: l, k, 0, v, _, hn, _, _ => by simp at hn
  | r :: l, k, n + 1, v, h, hn, hk, hv => by
    have hr := h r (by simp)
    rw [putB_cons] at hk hv ⊢
    rw [List.length_append, recB_len] at hk
    unfold wholeE
    by_cases hw : 20 + r.length ≤ k
    · rw [if_pos hw]
      have e : (recB r ++ putB l).set k v = recB r ++ (putB l).set (k - (20 + r.length)) v := by
        rw [List.set_append_right (h := by rw [recB_len]; exact hw), recB_len]
      have hv' : (putB l)[k - (20 + r.length)]? ≠ some v := by
        rw [List.getElem?_append_right (by rw [recB_len]; exact hw), recB_len] at hv
        exact hv
      obtain ⟨q0, q1, q2, q3⟩ := read_spoilt l (k - (20 + r.length)) n v (fun x hx => h x (by simp [hx])) (by simpa using hn) (by omega) hv'
      rw [e, readE_rec hr]
      refine ⟨by simp only [List.length_cons]; omega, by simp only [List.length_cons]; omega, by simp only [List.take_succ_cons, q2], ?_⟩
      rcases q3 with ⟨p1, p2⟩ | ⟨p1, p2, p3⟩
      · exact .inl ⟨by simp only [List.length_cons, p1], by simp only [p2]⟩
      · refine .inr ⟨by simp only [List.length_cons]; omega, ?_, ?_⟩
        · simpa only [List.getD_cons_succ] using p2
        · simpa only [List.getD_cons_succ] using p3
    · rw [if_neg hw]
      refine ⟨by simp, Nat.zero_le _, rfl, ?_⟩
      cases hf : firstE ((recB r ++ putB l).set k v) with
      | none =>
        rw [readE_none hf]
        exact .inl ⟨rfl, rfl⟩
      | some r' =>
        rw [readE_some hf]
        obtain ⟨p1, p2⟩ := first_spoilt hr (by omega) (by
          rw [List.getElem?_append_left (by rw [recB_len]; omega)] at hv
          exact hv) hf
        refine .inr ⟨by simp, ?_, ?_⟩
        · simpa only [List.getD_cons_zero] using p1
        · simpa only [List.getD_cons_zero] using p2
end Go.Proofs.YthmepecedjamcaaDoor
