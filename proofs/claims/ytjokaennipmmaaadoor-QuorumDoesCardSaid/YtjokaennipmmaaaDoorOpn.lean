import Derived.Test.YtjokaennipmmaaaDoorRowA
import Derived.Test.YtjokaennipmmaaaDoorPx
/- What came in as an argument, of whatever shape, reads as plain values; no law is named here. -/
namespace Go.Proofs.YtjokaennipmmaaaDoor
open Go.ChangeShapes Go.WideShapes Go.ChangeAt Go.WideMaps Go.WideElems Go.RowKit
/-- The shape of a type: a struct's fields are a row of shapes. -/
inductive Sh where
  | int (k : IntKind)
  | bool
  | str
  | arr (n : Nat) (s : Sh)
  | sl (s : Sh)
  | st (f : Sh)
  | nil
  | cons (a b : Sh)
def isTy : Sh → Bool
  | .nil => false
  | .cons _ _ => false
  | _ => true
/-- A type of the program has the shape; fields from an offset on have it. -/
def shG (P : Program) : Sh → TypeId → List Field → Nat → Bool
  | .int k, t, _, _ => (match P.underlying t with
    | some (.int k') => decide (k = k')
    | _ => false) && Nat.beq (P.cellsOf t) 1
  | .bool, t, _, _ => (match P.underlying t with
    | some .bool => true
    | _ => false) && Nat.beq (P.cellsOf t) 1
  | .str, t, _, _ => (match P.underlying t with
    | some .string => true
    | _ => false) && Nat.beq (P.cellsOf t) 1
  | .arr n s, t, _, _ => match P.underlying t with
    | some (.array n' e) => Nat.beq n n' && isTy s && shG P s e [] 0 && Nat.beq (P.cellsOf t) (n * P.cellsOf e)
    | _ => false
  | .sl s, t, _, _ => match P.underlying t with
    | some (.slice e) => isTy s && shG P s e [] 0 && Nat.blt 0 (P.cellsOf e) && Nat.beq (P.cellsOf t) 1
    | _ => false
  | .st f, t, _, _ => match P.underlying t with
    | some (.struct fs) => !isTy f && shG P f 0 fs.toList 0 && Nat.beq (P.cellsOf t) ((fs.toList.map fun g => P.cellsOf g.type).sum)
    | _ => false
  | .nil, _, fs, _ => fs.isEmpty
  | .cons a b, _, fs, off => match fs with
    | f :: fs => Nat.beq f.offset off && isTy a && !isTy b && shG P a f.type [] 0 && shG P b 0 fs (off + P.cellsOf f.type)
    | [] => false
/-- Plain cells of a shape. -/
def Is : Sh → List PV → Prop
  | .int k, cs => ∃ n, (Lit.int k n).wf = true ∧ cs = [.v (.int k n)]
  | .bool, cs => ∃ b, cs = [.v (.bool b)]
  | .str, cs => ∃ s : ByteArray, s.size ≤ maxLen ∧ cs = [.v (.string s)]
  | .arr n s, cs => ∃ es : List (List PV), es.length = n ∧ (∀ e ∈ es, Is s e) ∧ cs = es.flatten
  | .sl s, cs => ∃ es : List (List PV), es.length ≤ maxLen ∧ (∀ e ∈ es, Is s e) ∧ cs = [.sl .any es]
  | .st f, cs => Is f cs
  | .nil, cs => cs = []
  | .cons a b, cs => ∃ x y, Is a x ∧ Is b y ∧ cs = x ++ y
theorem Is.leaf : ∀ {s : Sh} {ps : List PV}, Is s ps → ∀ p ∈ ps, p.leaf = true := by
  intro s
  induction s with
  | int k => rintro ps ⟨n, _, rfl⟩ p hp; simp at hp; subst hp; rfl
  | bool => rintro ps ⟨b, rfl⟩ p hp; simp at hp; subst hp; rfl
  | str => rintro ps ⟨s, _, rfl⟩ p hp; simp at hp; subst hp; rfl
  | arr n s ih =>
    rintro ps ⟨es, _, he, rfl⟩ p hp
    obtain ⟨e, he1, he2⟩ := List.mem_flatten.1 hp
    exact ih (he e he1) p he2
  | sl s ih => rintro ps ⟨es, _, _, rfl⟩ p hp; simp at hp; subst hp; rfl
  | st f ih => exact fun h => ih h
  | nil => rintro ps rfl p hp; cases hp
  | cons a b iha ihb =>
    rintro ps ⟨x, y, hx, hy, rfl⟩ p hp
    rcases List.mem_append.1 hp with hp | hp
    · exact iha hx p hp
    · exact ihb hy p hp
def Reps (w : World) (ps : List PV) (cs : List Value) : Prop := ps.length = cs.length ∧ ∀ i, i < ps.length → Rep (allOf w) (ps.getD i .top) (cs.getD i undef)
theorem reps_one {w : World} {p : PV} {x : Value} (h : Rep (allOf w) p x) : Reps w [p] [x] := ⟨rfl, fun i hi => by
  have : i = 0 := by simpa using hi
  subst this; exact h⟩
section
variable {H : Type} {enc : TypeId × Value → H} {P : Program} {w : World} {base : Nat} {spare : Nat → Bool} {held : Bool}
theorem open_sh : ∀ (s : Sh), (∀ (t : TypeId) (fuel : Nat) (cs : List Value) (y : DataW H × List MemPlace), isTy s = true → shG P s t [] 0 = true → DataW.trod enc P w base spare held fuel t cs = some y → cs.length = P.cellsOf t ∧ ∃ ps, Is s ps ∧ Reps w ps cs) ∧
    (∀ (fs : List Field) (off n : Nat) (cs : List Value), isTy s = false → shG P s 0 fs off = true → (∀ f ∈ fs, ∃ y, DataW.trod enc P w base spare held n f.type ((cs.drop f.offset).take (P.cellsOf f.type)) = some y) →
      ∃ ps, Is s ps ∧ ps.length = (fs.map fun g => P.cellsOf g.type).sum ∧ ∀ i, i < ps.length → Rep (allOf w) (ps.getD i .top) (cs.getD (off + i) undef)) := by
  intro s
  induction s with
  | int k =>
    refine ⟨fun t fuel cs y _ h ht => ?_, fun _ _ _ _ h => (by cases h)⟩
    unfold shG at h
    simp only [Bool.and_eq_true] at h
    obtain ⟨h1, h2⟩ := h
    split at h1
    · rename_i k' hu
      obtain rfl := of_decide_eq_true h1
      obtain ⟨n, rfl, _, hwf⟩ := DataW.trod_int hu ht
      exact ⟨(Nat.eq_of_beq_eq_true h2).symm, _, ⟨n, hwf, rfl⟩, reps_one (.v _)⟩
    · cases h1
  | bool =>
    refine ⟨fun t fuel cs y _ h ht => ?_, fun _ _ _ _ h => (by cases h)⟩
    unfold shG at h
    simp only [Bool.and_eq_true] at h
    obtain ⟨h1, h2⟩ := h
    split at h1
    · rename_i hu
      obtain ⟨b, rfl, _⟩ := DataW.trod_bool hu ht
      exact ⟨(Nat.eq_of_beq_eq_true h2).symm, _, ⟨b, rfl⟩, reps_one (.v _)⟩
    · cases h1
  | str =>
    refine ⟨fun t fuel cs y _ h ht => ?_, fun _ _ _ _ h => (by cases h)⟩
    unfold shG at h
    simp only [Bool.and_eq_true] at h
    obtain ⟨h1, h2⟩ := h
    split at h1
    · rename_i hu
      obtain ⟨b, rfl, _, hm⟩ := DataW.trod_string hu ht
      exact ⟨(Nat.eq_of_beq_eq_true h2).symm, _, ⟨b, hm, rfl⟩, reps_one (.v _)⟩
    · cases h1
  | arr n s ih =>
    refine ⟨fun t fuel cs y _ h ht => ?_, fun _ _ _ _ h => (by cases h)⟩
    unfold shG at h
    split at h
    · rename_i n' e hu
      simp only [Bool.and_eq_true] at h
      obtain ⟨⟨⟨h1, h2⟩, h3⟩, h4⟩ := h
      obtain rfl := Nat.eq_of_beq_eq_true h1
      have h4 := Nat.eq_of_beq_eq_true h4
      obtain ⟨xs, m, _, _, hl, hn, hel⟩ := DataW.trod_array hu ht
      have each : ∀ i, ∃ ps : List PV, i < n → Is s ps ∧ Reps w ps ((cs.drop (i * P.cellsOf e)).take (P.cellsOf e)) := fun i => by
        by_cases hi : i < n
        · have h5 := hel i hi
          rw [List.getElem?_eq_getElem (by omega)] at h5
          obtain ⟨_, ps, h6, h7⟩ := ih.1 e m _ _ h2 h3 h5
          exact ⟨ps, fun _ => ⟨h6, h7⟩⟩
        · exact ⟨[], fun h => absurd h hi⟩
      obtain ⟨f, hf⟩ := Classical.axiomOfChoice each
      have hw : ∀ i, i < n → (f i).length = P.cellsOf e := fun i hi => by
        have h5 := (hf i hi).2.1
        have h6 : (i + 1) * P.cellsOf e ≤ n * P.cellsOf e := Nat.mul_le_mul_right _ hi
        rw [Nat.add_mul] at h6
        rw [h5, List.length_take, List.length_drop]; omega
      have hfl : ((List.range n).map f).length = n := by simp
      have hg : ∀ i, i < n → ((List.range n).map f).getD i [] = f i := fun i hi => by simp [List.getD, hi]
      obtain ⟨f1, f2⟩ := flatten_get (P.cellsOf e) ((List.range n).map f) (fun i hi => by rw [hfl] at hi; rw [hg i hi]; exact hw i hi)
      rw [hfl] at f1
      refine ⟨hl, ((List.range n).map f).flatten, ⟨_, hfl, fun e' he' => ?_, rfl⟩, by rw [f1, hl, h4], fun q hq => ?_⟩
      · obtain ⟨i, hi, rfl⟩ := List.mem_map.1 he'
        exact (hf i (by simpa using hi)).1
      · rw [f1] at hq
        by_cases h0 : P.cellsOf e = 0
        · rw [h0] at hq; simp at hq
        · have e1 : q / P.cellsOf e < n := (Nat.div_lt_iff_lt_mul (by omega)).2 hq
          have e2 : q % P.cellsOf e < P.cellsOf e := Nat.mod_lt _ (by omega)
          have e3 : q / P.cellsOf e * P.cellsOf e + q % P.cellsOf e = q := by rw [Nat.mul_comm]; exact Nat.div_add_mod q _
          have h5 := f2 _ _ (by rw [hfl]; exact e1) e2
          rw [e3, hg _ e1] at h5
          rw [h5]
          have h6 := (hf _ e1).2.2 _ (by rw [hw _ e1]; exact e2)
          simp only [List.getD] at h6 ⊢
          rw [List.getElem?_take_of_lt e2, List.getElem?_drop, e3] at h6
          exact h6
    · cases h
  | sl s ih =>
    refine ⟨fun t fuel cs y _ h ht => ?_, fun _ _ _ _ h => (by cases h)⟩
    unfold shG at h
    split at h
    · rename_i e hu
      simp only [Bool.and_eq_true] at h
      obtain ⟨⟨⟨h2, h3⟩, h4⟩, h5⟩ := h
      have h5 := Nat.eq_of_beq_eq_true h5
      have h4 : 0 < P.cellsOf e := Nat.blt_eq ▸ h4
      rcases DataW.trod_slice hu ht with ⟨rfl, _⟩ | ⟨a, len, cap, elems, rest, m, _, rfl, _, hb, hl, hm, hz, hel, _, _⟩
      · exact ⟨h5.symm, _, ⟨[], by simp, fun e he => (by cases he), rfl⟩, reps_one (Rep.nil _ (.inl rfl))⟩
      · have each : ∀ i, ∃ x : List PV × List Value, i < len → Is s x.1 ∧ Reps w x.1 x.2 ∧ x.2.length = P.cellsOf e ∧ ∀ k, k < P.cellsOf e → w.cell? ((a.add (i * P.cellsOf e)).add k) = x.2[k]? := fun i => by
          by_cases hi : i < len
          · have h6 := hel i hi
            rw [List.getElem?_eq_getElem (by omega), Option.bind_eq_some_iff] at h6
            obtain ⟨cs', hc, ht'⟩ := h6
            obtain ⟨h7, ps, h8, h9⟩ := ih.1 e m _ _ h2 h3 ht'
            exact ⟨(ps, cs'), fun _ => ⟨h8, h9, h7, fun k hk => (World.cells?_some hc).2.2 k hk⟩⟩
          · exact ⟨([], []), fun h => absurd h hi⟩
        obtain ⟨f, hf⟩ := Classical.axiomOfChoice each
        have hfl : ((List.range len).map fun i => (f i).1).length = len := by simp
        have hg : ∀ i, i < len → ((List.range len).map fun i => (f i).1).getD i [] = (f i).1 := fun i hi => by simp [List.getD, hi]
        refine ⟨h5.symm, _, ⟨(List.range len).map fun i => (f i).1, by rw [hfl]; omega, fun e' he' => ?_, rfl⟩, reps_one ?_⟩
        · obtain ⟨i, hi, rfl⟩ := List.mem_map.1 he'
          exact (hf i (by simpa using hi)).1
        · obtain ⟨g, o, sp⟩ := a
          have hsp : 0 < len → sp = none ∧ g < w.heap.size := fun h0 => by
            obtain ⟨_, _, q3, q4⟩ := hf 0 h0
            have h00 := q4 0 h4
            have e0 : ((⟨g, o, sp⟩ : Addr).add (0 * P.cellsOf e)).add 0 = ⟨g, o, sp⟩ := by simp [Addr.add]
            rw [e0, List.getElem?_eq_getElem (by omega)] at h00
            unfold World.cell? at h00
            split at h00
            · rename_i c' _ _ hh
              have hh' : w.heap[g]? = some (.cells c' _ _) := hh
              refine ⟨?_, (Array.getElem?_eq_some_iff.1 hh').1⟩
              cases sp with
              | none => rfl
              | some x => simp at h00
            · cases h00
          have key := Rep.sl (E := allOf w) .any ((List.range len).map fun i => (f i).1) (some ⟨g, o, sp⟩) cap g o (P.cellsOf e) (fun i j => (f i).2.getD j undef) (by rw [hfl]; exact hl) hm (fun h => by cases h) (fun t h => by cases h)
            (fun i hi => by
              rw [hfl] at hi
              rw [hg i hi, (hf i hi).2.1.1, (hf i hi).2.2.1])
            (fun hne => by
              have h0 : 0 < len := by
                rcases Nat.eq_zero_or_pos len with h0 | h0
                · subst h0; exact absurd rfl hne
                · exact h0
              rw [(hsp h0).1])
            (fun i j hi hj => by
              rw [hfl] at hi
              obtain ⟨q1, q2, q3, q4⟩ := hf i hi
              have h6 := q4 j hj
              obtain ⟨rfl, hgl⟩ := hsp (by omega)
              have e1 : ((⟨g, o, none⟩ : Addr).add (i * P.cellsOf e)).add j = ⟨g, o + i * P.cellsOf e + j, none⟩ := by
                unfold Addr.add
                by_cases h1 : i * P.cellsOf e = 0 <;> by_cases h2 : j = 0 <;> simp [h1, h2]
              rw [e1] at h6
              have hjl : j < (f i).2.length := by omega
              have hjp : j < (f i).1.length := by rw [q2.1]; exact hjl
              refine ⟨by show w.cell? _ = _; rw [h6]; simp [List.getD, hjl], hgl, ?_⟩
              have h7 := q2.2 j hjp
              refine h7.oneCell ?_
              rw [getD_eq hjp]
              exact q1.leaf _ (List.getElem_mem hjp))
            (fun i j hi hj => by
              rw [hfl] at hi
              rw [hg i hi]
              obtain ⟨q1, q2, q3, q4⟩ := hf i hi
              exact q2.2 j (by rw [q2.1]; omega))
          rw [hfl] at key
          exact key
    · cases h
  | st f ih =>
    refine ⟨fun t fuel cs y _ h ht => ?_, fun _ _ _ _ h => (by cases h)⟩
    unfold shG at h
    split at h
    · rename_i fs hu
      simp only [Bool.and_eq_true] at h
      obtain ⟨⟨hty, h1⟩, h2⟩ := h
      have hty : isTy f = false := by simpa using hty
      have h2 := Nat.eq_of_beq_eq_true h2
      obtain ⟨xs, n, _, _, hl, hlen, hel⟩ := DataW.trod_struct hu ht
      obtain ⟨ps, h3, h4, h5⟩ := ih.2 fs.toList 0 n cs hty h1 (fun g hg => by
        obtain ⟨i, hi, rfl⟩ := List.mem_iff_getElem.1 hg
        have h6 := hel i fs[i] (by simp)
        rw [List.getElem?_eq_getElem (by rw [hlen]; simpa using hi)] at h6
        exact ⟨_, by simpa using h6⟩)
      refine ⟨hl, ps, h3, by rw [h4, hl, h2], fun i hi => ?_⟩
      have := h5 i hi
      rwa [Nat.zero_add] at this
    · cases h
  | nil =>
    refine ⟨fun _ _ _ _ h => (by cases h), fun fs off n cs _ h _ => ?_⟩
    unfold shG at h
    have : fs = [] := by simpa using h
    subst this
    exact ⟨[], rfl, rfl, fun i hi => by simp at hi⟩
  | cons a b iha ihb =>
    refine ⟨fun _ _ _ _ h => (by cases h), fun fs off n cs _ h hr => ?_⟩
    unfold shG at h
    split at h
    · rename_i f fs
      simp only [Bool.and_eq_true] at h
      obtain ⟨⟨⟨⟨h1, h2⟩, hty⟩, h3⟩, h4⟩ := h
      have hty : isTy b = false := by simpa using hty
      obtain rfl := Nat.eq_of_beq_eq_true h1
      obtain ⟨y, hy⟩ := hr f List.mem_cons_self
      obtain ⟨k1, xs, k2, k3⟩ := iha.1 f.type n _ _ h2 h3 hy
      obtain ⟨ys, q1, q2, q3⟩ := ihb.2 fs (f.offset + P.cellsOf f.type) n cs hty h4 (fun g hg => hr g (List.mem_cons_of_mem _ hg))
      have hxl : xs.length = P.cellsOf f.type := by rw [k3.1, k1]
      refine ⟨xs ++ ys, ⟨xs, ys, k2, q1, rfl⟩, by rw [List.length_append, hxl, q2, List.map_cons, List.sum_cons], fun i hi => ?_⟩
      by_cases hlt : i < xs.length
      · rw [getD_app_left _ _ _ hlt]
        have h6 := k3.2 i hlt
        simp only [List.getD] at h6 ⊢
        rw [List.getElem?_take_of_lt (by omega), List.getElem?_drop] at h6
        exact h6
      · rw [getD_app_right _ _ _ (by omega)]
        have h6 := q3 (i - xs.length) (by rw [List.length_append] at hi; omega)
        rw [show f.offset + P.cellsOf f.type + (i - xs.length) = f.offset + i by omega] at h6
        exact h6
    · cases h
/-- A plain value of a shape. -/
def IsV : Sh → PV → Prop
  | .st f, p => ∃ ps, Is f ps ∧ p = .agg ps
  | .arr n s, p => ∃ ps, Is (.arr n s) ps ∧ p = .agg ps
  | .int k, p => ∃ n, (Lit.int k n).wf = true ∧ p = .v (.int k n)
  | .bool, p => ∃ b, p = .v (.bool b)
  | .str, p => ∃ s : ByteArray, s.size ≤ maxLen ∧ p = .v (.string s)
  | .sl s, p => ∃ es : List (List PV), es.length ≤ maxLen ∧ (∀ e ∈ es, Is s e) ∧ p = .sl .any es
  | _, _ => False
theorem cells_one {v : Value} (h : ∀ cs, v ≠ .agg cs) : v.cells.toList = [v] := by
  cases v <;> first | rfl | exact absurd rfl (h _)
theorem reps_fst {w : World} {p : PV} {x : Value} (h : Reps w [p] [x]) : Rep (allOf w) p x := h.2 0 (by simp)
theorem open_any (s : Sh) {r : Reach} {b0 : Nat} {t : TypeId} {v : Value} {d : DataW H} {p : List MemPlace} (hty : isTy s = true) (hs : shG P s t [] 0 = true) (hv : Value.okWide P w r b0 t v) (h : DataW.Trod enc P w base spare held t v d p) : ∃ q, IsV s q ∧ Rep (allOf w) q v := by
  obtain ⟨fuel, hf⟩ := h
  obtain ⟨hl, ps, h1, h2⟩ := (open_sh s).1 t fuel _ _ hty hs hf
  have agg : ∀ cs, v = .agg cs → Rep (allOf w) (.agg ps) v := fun cs e => by
    subst e
    refine .agg _ _ (by rw [h2.1]; simp [Value.cells]) fun i hi => ?_
    have := h2.2 i hi
    have hi' : i < cs.size := by have := h2.1; simp [Value.cells] at this; omega
    simpa [Value.cells, List.getD, Array.getD, hi'] using this
  cases s with
  | int k =>
    obtain ⟨n, hn, rfl⟩ := h1
    unfold shG at hs
    simp only [Bool.and_eq_true] at hs
    obtain ⟨hs, _⟩ := hs
    split at hs
    · rename_i k' hu
      have hne : ∀ cs, v ≠ .agg cs := fun cs e => by subst e; simp [Value.okWide, hu, Cell.okWide, Cell.ok] at hv
      rw [cells_one hne] at h2
      exact ⟨_, ⟨n, hn, rfl⟩, reps_fst h2⟩
    · cases hs
  | bool =>
    obtain ⟨n, rfl⟩ := h1
    unfold shG at hs
    simp only [Bool.and_eq_true] at hs
    obtain ⟨hs, _⟩ := hs
    split at hs
    · rename_i hu
      have hne : ∀ cs, v ≠ .agg cs := fun cs e => by subst e; simp [Value.okWide, hu, Cell.okWide, Cell.ok] at hv
      rw [cells_one hne] at h2
      exact ⟨_, ⟨n, rfl⟩, reps_fst h2⟩
    · cases hs
  | str =>
    obtain ⟨n, hn, rfl⟩ := h1
    unfold shG at hs
    simp only [Bool.and_eq_true] at hs
    obtain ⟨hs, _⟩ := hs
    split at hs
    · rename_i hu
      have hne : ∀ cs, v ≠ .agg cs := fun cs e => by subst e; simp [Value.okWide, hu, Cell.okWide, Cell.ok] at hv
      rw [cells_one hne] at h2
      exact ⟨_, ⟨n, hn, rfl⟩, reps_fst h2⟩
    · cases hs
  | arr n s =>
    unfold shG at hs
    split at hs
    · rename_i n' e hu
      simp only [Value.okWide, hu] at hv
      obtain ⟨cs, rfl, _⟩ := hv
      exact ⟨_, ⟨ps, h1, rfl⟩, agg cs rfl⟩
    · cases hs
  | sl s =>
    obtain ⟨es, hn, he, rfl⟩ := h1
    unfold shG at hs
    split at hs
    · rename_i e hu
      obtain ⟨a, len, cap, rfl⟩ := okWide_slice hu hv
      exact ⟨_, ⟨es, hn, he, rfl⟩, reps_fst h2⟩
    · cases hs
  | st f =>
    unfold shG at hs
    split at hs
    · rename_i fs hu
      obtain ⟨cs, rfl, _⟩ := okWide_struct hu hv
      exact ⟨_, ⟨ps, h1, rfl⟩, agg cs rfl⟩
    · cases hs
  | nil => cases hty
  | cons a b => cases hty
end
/-- A digest's shape, and what it holds. -/
def shD : Sh := .arr 4 (.int .u32)
theorem u32_of {n : Int} (h : (Lit.int .u32 n).wf = true) : ∃ x : UInt32, Value.int .u32 n = u x := by
  have hb := bounds_u32 h
  refine ⟨UInt32.ofNat n.toNat, val_int ?_⟩
  rw [UInt32.toNat_ofNat', Nat.mod_eq_of_lt (by omega)]; omega
theorem is_D {ps : List PV} (h : Is shD ps) : ∃ d : D, ps = dP d := by
  obtain ⟨es, hl, he, rfl⟩ := h
  match es, hl with
  | [a, b, c, e], _ =>
    obtain ⟨n0, h0, rfl⟩ := he a (by simp)
    obtain ⟨n1, h1, rfl⟩ := he b (by simp)
    obtain ⟨n2, h2, rfl⟩ := he c (by simp)
    obtain ⟨n3, h3, rfl⟩ := he e (by simp)
    obtain ⟨x0, e0⟩ := u32_of h0
    obtain ⟨x1, e1⟩ := u32_of h1
    obtain ⟨x2, e2⟩ := u32_of h2
    obtain ⟨x3, e3⟩ := u32_of h3
    refine ⟨⟨[x0, x1, x2, x3], rfl⟩, ?_⟩
    rw [e0, e1, e2, e3]
    rfl
theorem isV_D {p : PV} (h : IsV shD p) : ∃ d : D, p = .agg (dP d) := by
  obtain ⟨ps, h1, rfl⟩ := h
  obtain ⟨d, rfl⟩ := is_D h1
  exact ⟨d, rfl⟩
theorem all_of {α : Type} {s : Sh} {f : α → List PV} (hf : ∀ e, Is s e → ∃ a, e = f a) : ∀ {es : List (List PV)}, (∀ e ∈ es, Is s e) → ∃ l : List α, es = l.map f
  | [], _ => ⟨[], rfl⟩
  | e :: es, h => by
    obtain ⟨a, rfl⟩ := hf e (h e (by simp))
    obtain ⟨l, rfl⟩ := all_of (es := es) hf (fun e' he => h e' (List.mem_cons_of_mem _ he))
    exact ⟨a :: l, rfl⟩
theorem is_ds {es : List (List PV)} (h : ∀ e ∈ es, Is shD e) : ∃ l : List D, es = dsP l := all_of (fun _ h => is_D h) h
theorem is_ss {es : List (List PV)} (h : ∀ e ∈ es, Is .str e) : ∃ l : List ByteArray, es = ssP l ∧ ∀ s ∈ l, s.size ≤ maxLen := by
  have hx : ∀ e ∈ es, ∃ s : ByteArray, s.size ≤ maxLen ∧ e = sP s := fun e he => by
    obtain ⟨s, hs, rfl⟩ := h e he
    exact ⟨s, hs, rfl⟩
  clear h
  induction es with
  | nil => exact ⟨[], rfl, fun _ h => (by cases h)⟩
  | cons e es ih =>
    obtain ⟨s, hs, rfl⟩ := hx e (by simp)
    obtain ⟨l, rfl, hl⟩ := ih (fun e he => hx e (by simp [he]))
    refine ⟨s :: l, rfl, fun t ht => ?_⟩
    rcases List.mem_cons.1 ht with rfl | ht
    · exact hs
    · exact hl t ht
end Go.Proofs.YtjokaennipmmaaaDoor
