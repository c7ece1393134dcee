import Derived.Test.YtddggjmfplohkaaDoorRowA
import Derived.Test.YtddggjmfplohkaaDoorTa
import Derived.SizedLaws
/- What came in as an argument, of whatever shape, types that lead back to themselves among them, reads as plain values, and its rows are as long as the form lets them be; no law is named here. -/
namespace Go.Proofs.YtddggjmfplohkaaDoor
open Go.ChangeShapes Go.WideShapes Go.ChangeAt Go.WideMaps Go.WideElems Go.RowKit
/-- The shape of a type: a struct's fields are a row of shapes. -/
inductive Sh where
  | int (k : IntKind)
  | bool
  | str
  | ext (i : Nat)
  | sl (s : Sh)
  | st (f : Sh)
  | nil
  | cons (a b : Sh)
def isTy : Sh → Bool
  | .nil => false
  | .cons _ _ => false
  | _ => true
/-- A type of the program has the shape; fields from an offset on have it. -/
def shG (P : Program) (T : Nat → TypeId) : Sh → TypeId → List Field → Nat → Bool
  | .int k, t, _, _ => (match P.underlying t with
    | some (.int k') => decide (k = k')
    | _ => false) && Nat.beq (P.cellsOf t) 1
  | .bool, t, _, _ => (match P.underlying t with
    | some .bool => true
    | _ => false) && Nat.beq (P.cellsOf t) 1
  | .str, t, _, _ => (match P.underlying t with
    | some .string => true
    | _ => false) && Nat.beq (P.cellsOf t) 1
  | .ext i, t, _, _ => Nat.beq t (T i)
  | .sl s, t, _, _ => match P.underlying t with
    | some (.slice e) => isTy s && shG P T s e [] 0 && Nat.blt 0 (P.cellsOf e) && Nat.blt 0 (P.bytesOf e) && Nat.beq (P.cellsOf t) 1
    | _ => false
  | .st f, t, _, _ => match P.underlying t with
    | some (.struct fs) => !isTy f && shG P T f 0 fs.toList 0 && Nat.beq (P.cellsOf t) ((fs.toList.map fun g => P.cellsOf g.type).sum)
    | _ => false
  | .nil, _, fs, _ => fs.isEmpty
  | .cons a b, _, fs, off => match fs with
    | f :: fs => Nat.beq f.offset off && isTy a && !isTy b && shG P T a f.type [] 0 && shG P T b 0 fs (off + P.cellsOf f.type)
    | [] => false
/-- Plain cells of a shape. -/
def Is (X : Nat → List PV → Prop) : Sh → List PV → Prop
  | .int k, cs => ∃ n, (Lit.int k n).wf = true ∧ cs = [.v (.int k n)]
  | .bool, cs => ∃ b, cs = [.v (.bool b)]
  | .str, cs => ∃ s : ByteArray, s.size ≤ maxLen ∧ cs = [.v (.string s)]
  | .ext i, cs => X i cs
  | .sl s, cs => ∃ es : List (List PV), es.length ≤ reachBytes ∧ (∀ e ∈ es, Is X s e) ∧ cs = [.sl .any es]
  | .st f, cs => Is X f cs
  | .nil, cs => cs = []
  | .cons a b, cs => ∃ x y, Is X a x ∧ Is X b y ∧ cs = x ++ y
theorem Is.leaf {X : Nat → List PV → Prop} (hX : ∀ i ps, X i ps → ∀ p ∈ ps, p.leaf = true) : ∀ {s : Sh} {ps : List PV}, Is X s ps → ∀ p ∈ ps, p.leaf = true := by
  intro s
  induction s with
  | int k => rintro ps ⟨n, _, rfl⟩ p hp; simp at hp; subst hp; rfl
  | bool => rintro ps ⟨b, rfl⟩ p hp; simp at hp; subst hp; rfl
  | str => rintro ps ⟨s, _, rfl⟩ p hp; simp at hp; subst hp; rfl
  | ext i => exact fun h => hX i _ h
  | sl s ih => rintro ps ⟨es, _, _, rfl⟩ p hp; simp at hp; subst hp; rfl
  | st f ih => exact fun h => ih h
  | nil => rintro ps rfl p hp; cases hp
  | cons a b iha ihb =>
    rintro ps ⟨x, y, hx, hy, rfl⟩ p hp
    rcases List.mem_append.1 hp with hp | hp
    · exact iha hx p hp
    · exact ihb hy p hp
def Reps (w : World) (ps : List PV) (cs : List Value) : Prop := ps.length = cs.length ∧ ∀ i, i < ps.length → Rep (allOf w) (ps.getD i .top) (cs.getD i undef)
theorem reps_one {w : World} {p : PV} {x : Value} (h : Rep (allOf w) p x) : Reps w [p] [x] := ⟨rfl, fun i hi => by
  have : i = 0 := by simpa using hi
  subst this; exact h⟩
section
variable {H : Type} {enc : TypeId × Value → H} {P : Program} {w : World} {base : Nat} {spare : Nat → Bool} {held : Bool}
theorem mem_weights {e : TypeId} {d : DataW H} : ∀ {l : List (DataW H)}, d ∈ l → ∀ n ∈ d.weights P e, n ∈ DataW.weightsAll P e l
  | [], h, _, _ => by cases h
  | x :: l, h, n, hn => by
    simp only [DataW.weightsAll, List.mem_append]
    rcases List.mem_cons.1 h with rfl | h
    · exact .inl hn
    · exact .inr (mem_weights h n hn)
/-- All that is weighed is within the form's reach. -/
def Light (P : Program) (t : TypeId) (d : DataW H) : Prop := ∀ n ∈ d.weights P t, n ≤ reachBytes
/-- The types that are opened elsewhere, with so much fuel. -/
def ExtOpen (enc : TypeId × Value → H) (P : Program) (w : World) (base : Nat) (spare : Nat → Bool) (held : Bool) (T : Nat → TypeId) (X : Nat → List PV → Prop) (m : Nat) : Prop :=
  ∀ (i : Nat) (cs : List Value) (y : DataW H × List MemPlace), DataW.trod enc P w base spare held m (T i) cs = some y → Light P (T i) y.1 → cs.length = P.cellsOf (T i) ∧ ∃ ps, X i ps ∧ Reps w ps cs
theorem open_sh {T : Nat → TypeId} {X : Nat → List PV → Prop} (hX : ∀ i ps, X i ps → ∀ p ∈ ps, p.leaf = true) (N : Nat) (hN : ∀ m, m ≤ N → ExtOpen enc P w base spare held T X m) : ∀ (s : Sh), (∀ (t : TypeId) (fuel : Nat) (cs : List Value) (y : DataW H × List MemPlace), fuel ≤ N → isTy s = true → shG P T s t [] 0 = true → DataW.trod enc P w base spare held fuel t cs = some y → Light P t y.1 → cs.length = P.cellsOf t ∧ ∃ ps, Is X s ps ∧ Reps w ps cs) ∧
    (∀ (fs : List Field) (off n : Nat) (cs : List Value), n ≤ N → isTy s = false → shG P T s 0 fs off = true → (∀ f ∈ fs, ∃ y, DataW.trod enc P w base spare held n f.type ((cs.drop f.offset).take (P.cellsOf f.type)) = some y ∧ Light P f.type y.1) →
      ∃ ps, Is X s ps ∧ ps.length = (fs.map fun g => P.cellsOf g.type).sum ∧ ∀ i, i < ps.length → Rep (allOf w) (ps.getD i .top) (cs.getD (off + i) undef)) := by
  intro s
  induction s with
  | int k =>
    refine ⟨fun t fuel cs y hfu _ h ht hlw => ?_, fun _ _ _ _ _ h => (by cases h)⟩
    unfold shG at h
    simp only [Bool.and_eq_true] at h
    obtain ⟨h1, h2⟩ := h
    split at h1
    · rename_i k' hu
      obtain rfl := of_decide_eq_true h1
      obtain ⟨n, rfl, _, hwf⟩ := DataW.trod_int hu ht
      exact ⟨(Nat.eq_of_beq_eq_true h2).symm, _, ⟨n, hwf, rfl⟩, reps_one (.v _)⟩
    · cases h1
  | bool =>
    refine ⟨fun t fuel cs y hfu _ h ht hlw => ?_, fun _ _ _ _ _ h => (by cases h)⟩
    unfold shG at h
    simp only [Bool.and_eq_true] at h
    obtain ⟨h1, h2⟩ := h
    split at h1
    · rename_i hu
      obtain ⟨b, rfl, _⟩ := DataW.trod_bool hu ht
      exact ⟨(Nat.eq_of_beq_eq_true h2).symm, _, ⟨b, rfl⟩, reps_one (.v _)⟩
    · cases h1
  | str =>
    refine ⟨fun t fuel cs y hfu _ h ht hlw => ?_, fun _ _ _ _ _ h => (by cases h)⟩
    unfold shG at h
    simp only [Bool.and_eq_true] at h
    obtain ⟨h1, h2⟩ := h
    split at h1
    · rename_i hu
      obtain ⟨b, rfl, _, hm⟩ := DataW.trod_string hu ht
      exact ⟨(Nat.eq_of_beq_eq_true h2).symm, _, ⟨b, hm, rfl⟩, reps_one (.v _)⟩
    · cases h1
  | ext i =>
    refine ⟨fun t fuel cs y hfu _ h ht hlw => ?_, fun _ _ _ _ _ h => (by cases h)⟩
    unfold shG at h
    obtain rfl := Nat.eq_of_beq_eq_true h
    exact hN fuel hfu i cs y ht hlw
  | sl s ih =>
    refine ⟨fun t fuel cs y hfu _ h ht hlw => ?_, fun _ _ _ _ _ h => (by cases h)⟩
    unfold shG at h
    split at h
    · rename_i e hu
      simp only [Bool.and_eq_true] at h
      obtain ⟨⟨⟨⟨h2, h3⟩, h4⟩, hby⟩, h5⟩ := h
      have hby : 0 < P.bytesOf e := Nat.blt_eq ▸ hby
      have h5 := Nat.eq_of_beq_eq_true h5
      have h4 : 0 < P.cellsOf e := Nat.blt_eq ▸ h4
      rcases DataW.trod_slice hu ht with ⟨rfl, _⟩ | ⟨a, len, cap, elems, rest, m, hfm, rfl, hyy, hb, hl, hm, hz, hel, _, _⟩
      · exact ⟨h5.symm, _, ⟨[], by simp, fun e he => (by cases he), rfl⟩, reps_one (Rep.nil _ (.inl rfl))⟩
      · have hlen : len ≤ reachBytes := by
          have h6 : (elems.length + rest.length) * P.bytesOf e ≤ reachBytes := hlw _ (by rw [hyy]; simp [DataW.weights, hu])
          have : len * 1 ≤ (elems.length + rest.length) * P.bytesOf e := Nat.mul_le_mul (by omega) hby
          omega
        have each : ∀ i, ∃ x : List PV × List Value, i < len → Is X s x.1 ∧ Reps w x.1 x.2 ∧ x.2.length = P.cellsOf e ∧ ∀ k, k < P.cellsOf e → w.cell? ((a.add (i * P.cellsOf e)).add k) = x.2[k]? := fun i => by
          by_cases hi : i < len
          · have h6 := hel i hi
            rw [List.getElem?_eq_getElem (by omega), Option.bind_eq_some_iff] at h6
            obtain ⟨cs', hc, ht'⟩ := h6
            obtain ⟨h7, ps, h8, h9⟩ := ih.1 e m _ _ (by omega) h2 h3 ht' (fun n hn => hlw n (by
              rw [hyy]
              simp only [DataW.weights, hu, List.mem_cons, List.mem_append]
              exact .inr (.inl (mem_weights (List.mem_map.2 ⟨_, List.getElem_mem _, rfl⟩) n hn))))
            exact ⟨(ps, cs'), fun _ => ⟨h8, h9, h7, fun k hk => (World.cells?_some hc).2.2 k hk⟩⟩
          · exact ⟨([], []), fun h => absurd h hi⟩
        obtain ⟨f, hf⟩ := Classical.axiomOfChoice each
        have hfl : ((List.range len).map fun i => (f i).1).length = len := by simp
        have hg : ∀ i, i < len → ((List.range len).map fun i => (f i).1).getD i [] = (f i).1 := fun i hi => by simp [List.getD, hi]
        refine ⟨h5.symm, _, ⟨(List.range len).map fun i => (f i).1, by rw [hfl]; exact hlen, fun e' he' => ?_, rfl⟩, reps_one ?_⟩
        · obtain ⟨i, hi, rfl⟩ := List.mem_map.1 he'
          exact (hf i (by simpa using hi)).1
        · obtain ⟨g, o, sp⟩ := a
          have hsp : 0 < len → sp = none ∧ g < w.heap.size := fun h0 => by
            obtain ⟨_, _, q3, q4⟩ := hf 0 h0
            have h00 := q4 0 h4
            have e0 : ((⟨g, o, sp⟩ : Addr).add (0 * P.cellsOf e)).add 0 = ⟨g, o, sp⟩ := by simp [Addr.add]
            rw [e0, List.getElem?_eq_getElem (by omega)] at h00
            unfold World.cell? at h00
            split at h00
            · rename_i c' _ _ hh
              have hh' : w.heap[g]? = some (.cells c' _ _) := hh
              refine ⟨?_, (Array.getElem?_eq_some_iff.1 hh').1⟩
              cases sp with
              | none => rfl
              | some x => simp at h00
            · cases h00
          have key := Rep.sl (E := allOf w) .any ((List.range len).map fun i => (f i).1) (some ⟨g, o, sp⟩) cap g o (P.cellsOf e) (fun i j => (f i).2.getD j undef) (by rw [hfl]; exact hl) hm (fun h => by cases h) (fun t h => by cases h)
            (fun i hi => by
              rw [hfl] at hi
              rw [hg i hi, (hf i hi).2.1.1, (hf i hi).2.2.1])
            (fun hne => by
              have h0 : 0 < len := by
                rcases Nat.eq_zero_or_pos len with h0 | h0
                · subst h0; exact absurd rfl hne
                · exact h0
              rw [(hsp h0).1])
            (fun i j hi hj => by
              rw [hfl] at hi
              obtain ⟨q1, q2, q3, q4⟩ := hf i hi
              have h6 := q4 j hj
              obtain ⟨rfl, hgl⟩ := hsp (by omega)
              have e1 : ((⟨g, o, none⟩ : Addr).add (i * P.cellsOf e)).add j = ⟨g, o + i * P.cellsOf e + j, none⟩ := by
                unfold Addr.add
                by_cases h1 : i * P.cellsOf e = 0 <;> by_cases h2 : j = 0 <;> simp [h1, h2]
              rw [e1] at h6
              have hjl : j < (f i).2.length := by omega
              have hjp : j < (f i).1.length := by rw [q2.1]; exact hjl
              refine ⟨by show w.cell? _ = _; rw [h6]; simp [List.getD, hjl], hgl, ?_⟩
              have h7 := q2.2 j hjp
              refine h7.oneCell ?_
              rw [getD_eq hjp]
              exact q1.leaf hX _ (List.getElem_mem hjp))
            (fun i j hi hj => by
              rw [hfl] at hi
              rw [hg i hi]
              obtain ⟨q1, q2, q3, q4⟩ := hf i hi
              exact q2.2 j (by rw [q2.1]; omega))
          rw [hfl] at key
          exact key
    · cases h
  | st f ih =>
    refine ⟨fun t fuel cs y hfu _ h ht hlw => ?_, fun _ _ _ _ _ h => (by cases h)⟩
    unfold shG at h
    split at h
    · rename_i fs hu
      simp only [Bool.and_eq_true] at h
      obtain ⟨⟨hty, h1⟩, h2⟩ := h
      have hty : isTy f = false := by simpa using hty
      have h2 := Nat.eq_of_beq_eq_true h2
      obtain ⟨xs, n, hfn, hyy, hl, hlen, hel⟩ := DataW.trod_struct hu ht
      obtain ⟨ps, h3, h4, h5⟩ := ih.2 fs.toList 0 n cs (by omega) hty h1 (fun g hg => by
        obtain ⟨i, hi, rfl⟩ := List.mem_iff_getElem.1 hg
        have h6 := hel i fs[i] (by simp)
        rw [List.getElem?_eq_getElem (by rw [hlen]; simpa using hi)] at h6
        refine ⟨_, by simpa using h6, fun k hk => hlw k ?_⟩
        rw [hyy]
        simp only [DataW.weights, hu]
        exact DataW.weights_mem_each (j := i) (by rw [List.getElem?_map, List.getElem?_eq_getElem hi]; rfl) (by simp [List.getElem?_map, List.getElem?_eq_getElem (show i < xs.length by rw [hlen]; simpa using hi)]) k hk)
      refine ⟨hl, ps, h3, by rw [h4, hl, h2], fun i hi => ?_⟩
      have := h5 i hi
      rwa [Nat.zero_add] at this
    · cases h
  | nil =>
    refine ⟨fun _ _ _ _ _ h => (by cases h), fun fs off n cs _ _ h _ => ?_⟩
    unfold shG at h
    have : fs = [] := by simpa using h
    subst this
    exact ⟨[], rfl, rfl, fun i hi => by simp at hi⟩
  | cons a b iha ihb =>
    refine ⟨fun _ _ _ _ _ h => (by cases h), fun fs off n cs hnN _ h hr => ?_⟩
    unfold shG at h
    split at h
    · rename_i f fs
      simp only [Bool.and_eq_true] at h
      obtain ⟨⟨⟨⟨h1, h2⟩, hty⟩, h3⟩, h4⟩ := h
      have hty : isTy b = false := by simpa using hty
      obtain rfl := Nat.eq_of_beq_eq_true h1
      obtain ⟨y, hy, hyl⟩ := hr f List.mem_cons_self
      obtain ⟨k1, xs, k2, k3⟩ := iha.1 f.type n _ _ hnN h2 h3 hy hyl
      obtain ⟨ys, q1, q2, q3⟩ := ihb.2 fs (f.offset + P.cellsOf f.type) n cs hnN hty h4 (fun g hg => hr g (List.mem_cons_of_mem _ hg))
      have hxl : xs.length = P.cellsOf f.type := by rw [k3.1, k1]
      refine ⟨xs ++ ys, ⟨xs, ys, k2, q1, rfl⟩, by rw [List.length_append, hxl, q2, List.map_cons, List.sum_cons], fun i hi => ?_⟩
      by_cases hlt : i < xs.length
      · rw [getD_app_left _ _ _ hlt]
        have h6 := k3.2 i hlt
        simp only [List.getD] at h6 ⊢
        rw [List.getElem?_take_of_lt (by omega), List.getElem?_drop] at h6
        exact h6
      · rw [getD_app_right _ _ _ (by omega)]
        have h6 := q3 (i - xs.length) (by rw [List.length_append] at hi; omega)
        rw [show f.offset + P.cellsOf f.type + (i - xs.length) = f.offset + i by omega] at h6
        exact h6
    · cases h
end
end Go.Proofs.YtddggjmfplohkaaDoor
