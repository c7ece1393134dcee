import Derived.Test.YtjokaennipmmaaaDoorKeyT
/- Who agrees, as plain functions. -/
namespace Go.Proofs.YtjokaennipmmaaaDoor
open Go.RowKit
def sdsP (l : List Sd) : List (List PV) := l.map sdP
theorem sdsP_len (l : List Sd) : (sdsP l).length = l.length := List.length_map _
def zeroSd : Sd := (D.zero, zeroSg)
theorem sdsP_at {l : List Sd} {j : Nat} (h : j < l.length) : (sdsP l)[j]? = some (sdP (l.getD j zeroSd)) := by simp [sdsP, List.getD, h]
theorem sdsP_wide (l : List Sd) (i : Nat) (h : i < (sdsP l).length) : ((sdsP l).getD i []).length = 7 := by
  rw [sdsP_len] at h
  simp [sdsP, List.getD, h, sdP]
def dupE (bs : List D) : Bool := (List.range bs.length).any fun i => (List.range i).any fun k => decide (bs.getD i D.zero = bs.getD k D.zero)
def qrightE (bs : List D) (need : Int) : Bool := decide (1 ≤ bs.length) && decide (bs.length ≤ 20) && decide (1 ≤ need) && decide (need ≤ (bs.length : Int)) && !dupE bs
def agreesE (b msg : D) (l : List Sd) : Bool := l.any fun s => decide (s.1 = b) && kcheckE b msg s.2
def whoE (bs : List D) (msg : D) (l : List Sd) : List Nat := (List.range bs.length).filter fun i => agreesE (bs.getD i D.zero) msg l
def holdsE (bs : List D) (need : Int) (msg : D) (l : List Sd) : Bool := qrightE bs need && decide ((whoE bs msg l).length ≥ need)
theorem whoE_mem {bs : List D} {msg : D} {l : List Sd} {i : Nat} : i ∈ whoE bs msg l ↔ i < bs.length ∧ agreesE (bs.getD i D.zero) msg l = true := by
  unfold whoE
  rw [List.mem_filter, List.mem_range]
theorem whoE_nodup (bs : List D) (msg : D) (l : List Sd) : (whoE bs msg l).Nodup := List.Nodup.sublist List.filter_sublist List.nodup_range
theorem agreesE_mem {b msg : D} {l : List Sd} : agreesE b msg l = true ↔ ∃ s ∈ l, s.1 = b ∧ kcheckE b msg s.2 = true := by
  unfold agreesE
  simp [List.any_eq_true]
theorem agreesE_mono {b msg : D} {l l' : List Sd} (h : ∀ s ∈ l, s ∈ l') (ha : agreesE b msg l = true) : agreesE b msg l' = true := by
  rw [agreesE_mem] at *
  obtain ⟨s, h1, h2⟩ := ha
  exact ⟨s, h s h1, h2⟩
theorem whoE_congr {bs : List D} {msg : D} {l l' : List Sd} (h : ∀ s, s ∈ l ↔ s ∈ l') : whoE bs msg l = whoE bs msg l' := by
  unfold whoE
  refine List.filter_congr fun i _ => ?_
  rw [Bool.eq_iff_iff]
  exact ⟨agreesE_mono fun s hs => (h s).1 hs, agreesE_mono fun s hs => (h s).2 hs⟩
theorem whoE_count (bs : List D) (msg : D) (l : List Sd) : (whoE bs msg l).length = (List.range bs.length).countP fun i => agreesE (bs.getD i D.zero) msg l := by
  unfold whoE
  rw [List.countP_eq_length_filter]
def namedE (b : D) (l : List Sd) : Bool := l.any fun s => decide (s.1 = b)
def namedN (bs : List D) (l : List Sd) : Nat := (List.range bs.length).countP fun i => namedE (bs.getD i D.zero) l
/-- Of builders that no signature names nobody agrees. -/
theorem whoE_few (bs : List D) (msg : D) (l : List Sd) : (whoE bs msg l).length ≤ namedN bs l := by
  rw [whoE_count]
  refine List.countP_mono_left fun i _ h => ?_
  obtain ⟨s, h1, h2, _⟩ := agreesE_mem.1 h
  unfold namedE
  simp only [List.any_eq_true, decide_eq_true_eq]
  exact ⟨s, h1, h2⟩
/-- Whoever agrees by some signatures agrees by more, in the same order. -/
theorem whoE_sub {bs : List D} {msg : D} {l l' : List Sd} (h : ∀ s ∈ l, s ∈ l') : (whoE bs msg l).Sublist (whoE bs msg l') := by
  unfold whoE
  have : (List.range bs.length).filter (fun i => agreesE (bs.getD i D.zero) msg l) = ((List.range bs.length).filter (fun i => agreesE (bs.getD i D.zero) msg l')).filter (fun i => agreesE (bs.getD i D.zero) msg l) := by
    rw [List.filter_filter]
    refine List.filter_congr fun i _ => ?_
    cases ha : agreesE (bs.getD i D.zero) msg l
    · rfl
    · rw [agreesE_mono h ha]; rfl
  rw [this]
  exact List.filter_sublist
theorem holdsE_more {bs : List D} {need : Int} {msg : D} {l l' : List Sd} (h : ∀ s ∈ l, s ∈ l') (hh : holdsE bs need msg l = true) : holdsE bs need msg l' = true := by
  unfold holdsE at *
  simp only [Bool.and_eq_true, decide_eq_true_eq] at *
  have := (whoE_sub (bs := bs) (msg := msg) h).length_le
  exact ⟨hh.1, by omega⟩
/-- Two that have nothing in common are not more than all. -/
theorem count_apart {α : Type} (p q : α → Bool) : ∀ l : List α, (∀ x ∈ l, ¬ (p x = true ∧ q x = true)) → l.countP p + l.countP q ≤ l.length
  | [], _ => by simp
  | a :: l, h => by
    have ih := count_apart p q l fun x hx => h x (by simp [hx])
    have ha := h a (by simp)
    simp only [List.countP_cons, List.length_cons]
    cases hp : p a <;> cases hq : q a <;> simp_all <;> omega
theorem whoE_meet {bs : List D} {m n : D} {l k : List Sd} (h : bs.length < (whoE bs m l).length + (whoE bs n k).length) : ∃ i, i ∈ whoE bs m l ∧ i ∈ whoE bs n k := by
  apply Classical.byContradiction
  intro hno
  rw [whoE_count, whoE_count] at h
  have := count_apart (fun i => agreesE (bs.getD i D.zero) m l) (fun i => agreesE (bs.getD i D.zero) n k) (List.range bs.length) fun x hx ⟨h1, h2⟩ => hno ⟨x, whoE_mem.2 ⟨by simpa using hx, h1⟩, whoE_mem.2 ⟨by simpa using hx, h2⟩⟩
  rw [List.length_range] at this
  omega
/-- If all that agree lie, no fewer builders lie than agree. -/
theorem whoE_lies {bs : List D} {m : D} {l : List Sd} {p : Nat → Bool} (h : ∀ i ∈ whoE bs m l, p i = true) : (whoE bs m l).length ≤ (List.range bs.length).countP p := by
  rw [whoE_count]
  exact List.countP_mono_left fun i hi ha => h i (whoE_mem.2 ⟨by simpa using hi, ha⟩)
/-- Who agrees where just the builders from a on sign, each for itself. -/
theorem whoE_run {pk : Nat → D} {sg : Nat → Sg} {msg : D} {m a : Nat} (hinj : ∀ i k, i < m → k < m → pk i = pk k → i = k) (hok : ∀ i, i < m → kcheckE (pk i) msg (sg i) = true) :
    (whoE ((List.range m).map pk) msg ((List.range' a (m - a)).map fun i => (pk i, sg i))).length = m - a := by
  have hb : ∀ i, i < m → ((List.range m).map pk).getD i D.zero = pk i := fun i hi => by simp [List.getD, hi]
  have hag : ∀ i, i < m → agreesE (((List.range m).map pk).getD i D.zero) msg ((List.range' a (m - a)).map fun i => (pk i, sg i)) = decide (a ≤ i) := fun i hi => by
    rw [hb i hi, Bool.eq_iff_iff, agreesE_mem, decide_eq_true_eq]
    constructor
    · rintro ⟨s, hs, h1, h2⟩
      obtain ⟨j, hj, rfl⟩ := List.mem_map.1 hs
      have hj' := List.mem_range'_1.1 hj
      have : j = i := hinj j i (by omega) hi h1
      omega
    · intro hle
      exact ⟨(pk i, sg i), List.mem_map.2 ⟨i, List.mem_range'_1.2 ⟨hle, by omega⟩, rfl⟩, rfl, hok i hi⟩
  have hlen : ((List.range m).map pk).length = m := by simp
  have hcount : ∀ n, n ≤ m → (List.range n).countP (fun i => agreesE (((List.range m).map pk).getD i D.zero) msg ((List.range' a (m - a)).map fun i => (pk i, sg i))) = n - a := by
    intro n
    induction n with
    | zero => intro _; simp
    | succ n ih =>
      intro hn
      rw [List.range_succ, List.countP_append, ih (by omega), List.countP_singleton, hag n (by omega)]
      by_cases h : a ≤ n
      · rw [decide_eq_true h]; simp; omega
      · rw [decide_eq_false h]; simp; omega
  rw [whoE_count, hlen]
  exact hcount m (Nat.le_refl _)
theorem dupE_inj {pk : Nat → D} {m : Nat} (h : dupE ((List.range m).map pk) = false) : ∀ i k, i < m → k < m → pk i = pk k → i = k := by
  have hb : ∀ i, i < m → ((List.range m).map pk).getD i D.zero = pk i := fun i hi => by simp [List.getD, hi]
  have key : ∀ i k, k < i → i < m → pk i ≠ pk k := fun i k hki hi e => by
    have : dupE ((List.range m).map pk) = true := by
      unfold dupE
      rw [List.any_eq_true]
      refine ⟨i, by simpa using hi, ?_⟩
      rw [List.any_eq_true]
      exact ⟨k, by simpa using hki, decide_eq_true (by rw [hb i hi, hb k (by omega)]; exact e)⟩
    rw [h] at this; cases this
  intro i k hi hk e
  rcases Nat.lt_trichotomy i k with hlt | heq | hgt
  · exact absurd e.symm (key k i hlt hk)
  · exact heq
  · exact absurd e (key i k hgt hi)
/-- One row, gone through, stands in another one in order. -/
theorem sub_step {a b : List Nat} {i k : Nat} (h : (a.drop k).Sublist (b.drop i)) (hi : i < b.length) (hk : k < a.length) : if b.getD i 0 = a.getD k 0 then (a.drop (k + 1)).Sublist (b.drop (i + 1)) else (a.drop k).Sublist (b.drop (i + 1)) := by
  rw [List.drop_eq_getElem_cons hk, List.drop_eq_getElem_cons hi] at h
  have e1 : b.getD i 0 = b[i] := by simp [List.getD, hi]
  have e2 : a.getD k 0 = a[k] := by simp [List.getD, hk]
  rw [e1, e2]
  split
  · rename_i e
    rw [e] at h
    exact List.cons_sublist_cons.1 h
  · rename_i e
    rw [List.drop_eq_getElem_cons hk]
    generalize b[i] = x at *
    generalize a[k] = y at *
    cases h with
    | cons _ h => exact h
    | cons_cons _ h => exact absurd rfl e
end Go.Proofs.YtjokaennipmmaaaDoor
