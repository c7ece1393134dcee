/- Digests as a type of their own: their contracts, equality, and slices that read as lists; the numbers of the program enter by hypotheses alone but for the contracts of Pair. -/
import Derived.Test.YtamllmoakgnjoaaDoorRPair
import Derived.Laws.StructEq
import Derived.Laws.AppendOwn
import Derived.Laws.MakeOwn
namespace Go.Proofs.YtamllmoakgnjoaaDoor
open Go.RowKit

abbrev D := { l : List UInt32 // l.length = 4 }
def D.zero : D := ⟨[0, 0, 0, 0], rfl⟩
instance : Inhabited D := ⟨D.zero⟩
def pairE (a b : D) : D := ⟨pairD a.1 b.1, rfl⟩
theorem D.sz (d : D) : (us d.1).size = 4 := by simp [us, d.2]
theorem D.one (d : D) : (us d.1).all (·.oneCell') = true := us_one d.1

theorem pair_c (a b : D) (w : World) (hP : Places w) :
    Calls Tryd.prog 63 #[.agg (us a.1), .agg (us b.1)] w fun e w' => e = .returned (.agg (us (pairE a b).1)) ∧ Grow w w' :=
  pair_any a.1 b.1 a.2 b.2 w hP
theorem rpair_c (a b : D) (w : World) :
    Calls Tryd.prog 46 #[.agg (us a.1), .agg (us b.1)] w fun e w' => e = .returned (.agg (us (pairE a b).1)) ∧ Grow w w' :=
  rpair_any a.1 b.1 a.2 b.2 w

theorem beq_range (xs ys : List UInt32) : ∀ n, xs.length = n → ys.length = n → ((List.range n).all fun i => xs.getD i 0 == ys.getD i 0) = (xs == ys) := by
  induction xs generalizing ys with
  | nil => intro n hx hy; subst hx; cases ys with
    | nil => rfl
    | cons y ys => simp at hy
  | cons x xs ih =>
    intro n hx hy
    cases ys with
    | nil => subst hx; simp at hy
    | cons y ys =>
      obtain ⟨m, rfl⟩ : ∃ m, n = m + 1 := ⟨xs.length, by simpa using hx.symm⟩
      rw [List.range_succ_eq_map, List.all_cons, List.all_map]
      have := ih ys m (by simpa using hx) (by simpa using hy)
      simp only [List.getD_cons_zero, Function.comp_def, List.getD_cons_succ, this]
      simp [List.cons_beq_cons]

section
variable {P : Program} (w : World)
theorem run_equalIn_us (d : Nat) (t e : TypeId) (n : Nat) (ht : P.underlying t = some (.array n e)) (he : P.underlying e = some (.int .u32)) (hsz : ∀ w, (sizeOf e).run P w = .ok 1 w)
    (xs ys : List UInt32) (hx : xs.length = n) (hy : ys.length = n) :
    (Op.equalIn (d + 2) t (.agg (us xs)) (.agg (us ys))).run P w = .ok (xs == ys) w := by
  rw [← beq_range xs ys n hx hy, List.range_eq_range', Op.equalIn]
  simp only [Sem.run_bind, run_underlying ht, Result.andThen_ok, hsz, Std.Legacy.Range.forIn_eq_forIn_range', Std.Legacy.Range.size, Nat.sub_zero, Nat.add_sub_cancel, Nat.div_one]
  have hl : ∀ i ∈ List.range' 0 n 1, i < n := fun i hi => by simpa using (List.mem_range'_1.1 hi).2
  generalize List.range' 0 n 1 = l at hl ⊢
  induction l with
  | nil => simp
  | cons i l ih =>
    have hi : i < n := hl i (by simp)
    have px : (part e (us xs) (i * 1)).run P w = .ok (u (xs.getD i 0)) w := by
      have := us_get xs i (by omega)
      simp [part, isAgg, run_underlying he, this]
    have py : (part e (us ys) (i * 1)).run P w = .ok (u (ys.getD i 0)) w := by
      have := us_get ys i (by omega)
      simp [part, isAgg, run_underlying he, this]
    have pe : (Op.equalIn (d + 1) e (u (xs.getD i 0)) (u (ys.getD i 0))).run P w = .ok (xs.getD i 0 == ys.getD i 0) w := by
      rw [run_equalIn_int w d e .u32 .u32 _ _ he]
      congr 1
      rw [Bool.eq_iff_iff]
      simp [← UInt32.toNat_inj]
      omega
    simp only [List.forIn_cons, Sem.run_bind, px, py, pe, Result.andThen_ok, List.all_cons]
    cases hb : (xs.getD i 0 == ys.getD i 0)
    · simp
    · simp only [Bool.not_true, Bool.false_eq_true, if_false, Sem.run_pure, Result.andThen_ok, Bool.true_and]
      exact ih fun j hj => hl j (by simp [hj])
theorem run_eql_D (t e : TypeId) (ht : P.underlying t = some (.array 4 e)) (he : P.underlying e = some (.int .u32)) (hsz : ∀ w, (sizeOf e).run P w = .ok 1 w) (a b : D) :
    (binOp .eql t (.agg (us a.1)) (.agg (us b.1))).run P w = .ok (.bool (decide (a = b))) w := by
  rw [run_eql_struct, run_equalIn_us w 9998 t e 4 ht he hsz a.1 b.1 a.2 b.2]
  have : (a.1 == b.1) = decide (a = b) := by
    rw [Bool.eq_iff_iff]; simp [Subtype.ext_iff]
  rw [this]
  rfl
theorem run_neq_D (t e : TypeId) (ht : P.underlying t = some (.array 4 e)) (he : P.underlying e = some (.int .u32)) (hsz : ∀ w, (sizeOf e).run P w = .ok 1 w) (a b : D) :
    (binOp .neq t (.agg (us a.1)) (.agg (us b.1))).run P w = .ok (.bool (!decide (a = b))) w := by
  have : (a.1 == b.1) = decide (a = b) := by
    rw [Bool.eq_iff_iff]; simp [Subtype.ext_iff]
  have h := run_equalIn_us w 9998 t e 4 ht he hsz a.1 b.1 a.2 b.2
  simp only [binOp]
  simp [Op.equal, Op.maxDepth, h, this]
end

/-- Whole numbers from 0 on as the model's values. -/
def ints (l : List Nat) : List Value := l.map fun (n : Nat) => Value.int .i64 (n : Int)
def dcells (l : List D) : List Value := l.flatMap fun d => d.1.map u
theorem dcells_length (l : List D) : (dcells l).length = l.length * 4 := by
  induction l with
  | nil => rfl
  | cons d l ih =>
    have e : dcells (d :: l) = d.1.map u ++ dcells l := by simp [dcells]
    rw [e, List.length_append, ih, List.length_map, d.2, List.length_cons]; omega
theorem dcells_append (a b : List D) : dcells (a ++ b) = dcells a ++ dcells b := by simp [dcells]
theorem dcells_one (d : D) : dcells [d] = d.1.map u := by simp [dcells]
theorem dcells_get (l : List D) (i j : Nat) (hi : i < l.length) (hj : j < 4) : (dcells l)[i * 4 + j]? = ((l.getD i D.zero).1.map u)[j]? := by
  induction l generalizing i with
  | nil => simp at hi
  | cons d l ih =>
    have e : dcells (d :: l) = d.1.map u ++ dcells l := by simp [dcells]
    rw [e]
    cases i with
    | zero => rw [Nat.zero_mul, Nat.zero_add, List.getElem?_append_left (by simp [d.2]; omega)]; simp
    | succ i =>
      rw [List.getElem?_append_right (by simp [d.2]; omega), List.length_map, d.2, show (i + 1) * 4 + j - 4 = i * 4 + j by omega, ih i (by simpa using hi)]
      simp

/-- The slice v reads as the cells xs, n elements of size cells each. -/
def Sl (w : World) (v : Value) (size n : Nat) (xs : List Value) : Prop :=
  ∃ A c, v = .slice A n c ∧ n ≤ c ∧ c ≤ maxLen ∧ xs.length = n * size ∧ (n = 0 ∨ ∃ g o, A = some ⟨g, o, none⟩ ∧ g < w.heap.size ∧ ∀ j x, xs[j]? = some x → w.cell? ⟨g, o + j, none⟩ = some x)
theorem Sl.grow {w w' : World} {v : Value} {size n : Nat} {xs : List Value} (h : Sl w v size n xs) (hg : Grow w w') : Sl w' v size n xs := by
  obtain ⟨A, c, h1, h2, h3, h4, h5⟩ := h
  refine ⟨A, c, h1, h2, h3, h4, h5.imp id ?_⟩
  rintro ⟨g, o, e, hl, hc⟩
  exact ⟨g, o, e, Nat.lt_of_lt_of_le hl hg.size, fun j x hx => (hg.cell (p := ⟨g, o + j, none⟩) hl).trans (hc j x hx)⟩
theorem Sl.of_own {w : World} {base : Nat} {e : TypeId} {size n : Nat} {v : Value} {xs : List Value} (h : w.ownsRow base e size v n xs) : Sl w v size n xs := by
  obtain ⟨hl, h | ⟨g, cap, cur, hv, _, hg, hn, hm, hs, ht⟩⟩ := h
  · obtain ⟨rfl, rfl⟩ := h
    exact ⟨none, 0, rfl, Nat.le_refl _, by simp [maxLen], hl, .inl rfl⟩
  · refine ⟨some ⟨g, 0, none⟩, cap, hv, hn, hm, hl, .inr ⟨g, 0, rfl, Blk.lt hg, fun j x hx => ?_⟩⟩
    rw [cell_of_row w g _ cur e (0, 0) hg, Nat.zero_add]
    rw [← ht] at hx
    have hj : j < (cur.toList.take (n * size)).length := (List.getElem?_eq_some_iff.1 hx).1
    rw [List.getElem?_take] at hx
    split at hx
    · simpa using hx
    · simp at hx
/-- A row of numbers of the call's own, written out. -/
theorem own_ints {w : World} {base : Nat} {e : TypeId} {n : Nat} {v : Value} {l : List Nat} (h : w.ownsRow base e 1 v n (ints l)) (hn : 0 < n) :
    ∃ g cap, v = .slice (some ⟨g, 0, none⟩) n cap ∧ base ≤ g ∧ n ≤ cap ∧ g < w.heap.size ∧ ∀ w', Grow w w' → ∀ j, j < n → w'.cell? ⟨g, j, none⟩ = some (.int .i64 ((l.getD j 0 : Nat) : Int)) := by
  have hs := Sl.of_own h
  obtain ⟨hl, h0 | ⟨g, cap, cur, hv, hb, hg, hc, hm, hsz, ht⟩⟩ := h
  · omega
  · refine ⟨g, cap, hv, hb, hc, Blk.lt hg, fun w' hgr j hj => ?_⟩
    obtain ⟨A, c, e1, _, _, e4, e5⟩ := hs.grow hgr
    rcases e5 with e5 | ⟨g', o, e6, _, e8⟩
    · omega
    · rw [hv] at e1
      injection e1 with e1 _ _
      rw [← e1] at e6
      injection e6 with e6
      injection e6 with e6 e7 _
      subst e6; subst e7
      have hl' : l.length = n := by simpa [ints] using hl
      have := e8 j (.int .i64 ((l.getD j 0 : Nat) : Int)) (by simp [ints, List.getD, List.getElem?_eq_getElem (show j < l.length by omega)])
      simpa using this
theorem own_ints_lit {w : World} {base : Nat} {e : TypeId} {n g cap : Nat} {l : List Nat} (h : w.ownsRow base e 1 (.slice (some ⟨g, 0, none⟩) n cap) n (ints l)) (hn : 0 < n) :
    ∀ w', Grow w w' → ∀ j, j < n → w'.cell? ⟨g, j, none⟩ = some (.int .i64 ((l.getD j 0 : Nat) : Int)) := by
  obtain ⟨g', cap', hv, _, _, _, hc⟩ := own_ints h hn
  injection hv with h1 _ _
  injection h1 with h1
  injection h1 with h1 _ _
  subst h1
  exact hc
theorem D.get (d : D) (k : Nat) (hk : k < 4) : (d.1.map u)[k]? = some (u (d.1.getD k 0)) := by
  have h4 := d.2
  rw [List.getElem?_map, List.getD_eq_getElem?_getD, List.getElem?_eq_getElem (show k < d.1.length by omega)]
  rfl
/-- A slice of digests that reads as l, its address and capacity named. -/
def SlD (w : World) (A : Option Addr) (n c : Nat) (l : List D) : Prop :=
  n ≤ c ∧ c ≤ maxLen ∧ l.length = n ∧ (0 < n → ∃ g o, A = some ⟨g, o, none⟩ ∧ g < w.heap.size ∧ ∀ i k, i < n → k < 4 → w.cell? ⟨g, o + i * 4 + k, none⟩ = some (u ((l.getD i D.zero).1.getD k 0)))
theorem SlD.grow {w w' : World} {A : Option Addr} {n c : Nat} {l : List D} (h : SlD w A n c l) (hg : Grow w w') : SlD w' A n c l := by
  obtain ⟨h1, h2, h3, h4⟩ := h
  refine ⟨h1, h2, h3, fun hn => ?_⟩
  obtain ⟨g, o, e, hl, hc⟩ := h4 hn
  exact ⟨g, o, e, Nat.lt_of_lt_of_le hl hg.size, fun i k hi hk => (hg.cell (p := ⟨g, o + i * 4 + k, none⟩) hl).trans (hc i k hi hk)⟩
theorem SlD.of_sl {w : World} {v : Value} {n : Nat} {l : List D} (h : Sl w v 4 n (dcells l)) : ∃ A c, v = .slice A n c ∧ SlD w A n c l := by
  obtain ⟨A, c, h1, h2, h3, h4, h5⟩ := h
  have hl : l.length = n := by rw [dcells_length] at h4; omega
  refine ⟨A, c, h1, h2, h3, hl, fun hn => ?_⟩
  rcases h5 with h5 | ⟨g, o, e, hlt, hc⟩
  · omega
  · refine ⟨g, o, e, hlt, fun i k hi hk => ?_⟩
    have := hc (i * 4 + k) (u ((l.getD i D.zero).1.getD k 0)) (by
      rw [dcells_get l i k (by omega) hk]
      exact D.get _ k hk)
    rw [← Nat.add_assoc] at this
    exact this
theorem SlD.of_own {w : World} {base : Nat} {e : TypeId} {n : Nat} {v : Value} {l : List D} (h : w.ownsRow base e 4 v n (dcells l)) : ∃ A c, v = .slice A n c ∧ SlD w A n c l := SlD.of_sl (Sl.of_own h)
theorem SlD.of_own' {w : World} {base : Nat} {e : TypeId} {n : Nat} {v : Value} {l : List D} (h : w.ownsRow base e 4 v n (dcells l)) : ∃ A c, v = .slice A n c ∧ SlD w A n c l ∧ ∀ ga oa, A = some ⟨ga, oa, none⟩ → base ≤ ga := by
  obtain ⟨A, c, hv, hs⟩ := SlD.of_own h
  refine ⟨A, c, hv, hs, ?_⟩
  rintro ga oa rfl
  obtain ⟨_, h | ⟨g, cap, cur, hv', hb, _⟩⟩ := h
  · rw [hv] at h; obtain ⟨h, _⟩ := h; injection h with h _ _; cases h
  · rw [hv] at hv'
    injection hv' with h1 _ _
    injection h1 with h1
    injection h1 with h1 _ _
    omega
theorem SlD.setRow {w : World} {A : Option Addr} {n c : Nat} {l : List D} (h : SlD w A n c l) {g : Nat} (hne : ∀ ga oa, A = some ⟨ga, oa, none⟩ → ga ≠ g) (cs : Array Value) : SlD (w.setRow g cs) A n c l := by
  obtain ⟨h1, h2, h3, h4⟩ := h
  refine ⟨h1, h2, h3, fun hn => ?_⟩
  obtain ⟨ga, o, e, hl, hc⟩ := h4 hn
  exact ⟨ga, o, e, by simpa using hl, fun i k hi hk => (cell_setRow_other w g cs ⟨ga, o + i * 4 + k, none⟩ (hne ga o e)).trans (hc i k hi hk)⟩
theorem SlD.lt {w : World} {A : Option Addr} {n c : Nat} {l : List D} (h : SlD w A n c l) (hn : 0 < n) : ∀ ga oa, A = some ⟨ga, oa, none⟩ → ga < w.heap.size := by
  rintro ga oa rfl
  obtain ⟨g, o, e, hl, _⟩ := h.2.2.2 hn
  injection e with e
  injection e with e _ _
  omega
theorem ownsRow_base {w : World} {base base' : Nat} {e : TypeId} {size n : Nat} {v : Value} {xs : List Value} (h : w.ownsRow base e size v n xs) (hb : base' ≤ base) : w.ownsRow base' e size v n xs := by
  obtain ⟨hl, h | ⟨g, cap, cur, hv, h1, h2⟩⟩ := h
  · exact ⟨hl, .inl h⟩
  · exact ⟨hl, .inr ⟨g, cap, cur, hv, Nat.le_trans hb h1, h2⟩⟩
theorem ownsRow_grow {w w' : World} {base : Nat} {e : TypeId} {size n : Nat} {v : Value} {xs : List Value} (h : w.ownsRow base e size v n xs) (hg : Grow w w') : w'.ownsRow base e size v n xs := by
  obtain ⟨hl, h | ⟨g, cap, cur, hv, h1, h2, h3⟩⟩ := h
  · exact ⟨hl, .inl h⟩
  · exact ⟨hl, .inr ⟨g, cap, cur, hv, h1, (hg.block g (Blk.lt h2)).trans h2, h3⟩⟩
/-- Two rows of unlike element types: what is done to one leaves the other. -/
theorem ownsRow_beside {w w' : World} {b b' : Nat} {e e' : TypeId} {s s' n n' : Nat} {v v' : Value} {xs xs' : List Value} (h : w.ownsRow b e s v n xs) (k : w.ownsRow b' e' s' v' n' xs') (hne : e ≠ e')
    (hs : ∀ g, g < w.heap.size → v'.ownBlock ≠ some g → w'.heap[g]? = w.heap[g]?) : w'.ownsRow b e s v n xs := by
  obtain ⟨hl, h | ⟨g, cap, cur, hv, h1, h2, h3⟩⟩ := h
  · exact ⟨hl, .inl h⟩
  · refine ⟨hl, .inr ⟨g, cap, cur, hv, h1, (hs g (Blk.lt h2) ?_).trans h2, h3⟩⟩
    obtain ⟨_, k | ⟨g', cap', cur', hv', _, k2, _⟩⟩ := k
    · rw [k.1]; simp [Value.ownBlock]
    · rw [hv']
      intro he
      have : g' = g := by simpa [Value.ownBlock] using he
      subst this
      rw [h2] at k2
      injection k2 with k2
      injection k2 with _ k3
      exact hne k3
theorem grow_of_grownBy {B : Nat} {w w' : World} {row : Option Nat} (hg : w.grownBy w' row) (hB : B ≤ w.heap.size) (hr : ∀ k, row = some k → B ≤ k) : Below B w w' := (Below.refl B w).grown hg hB hr

/-- make with constants. -/
theorem run_make_const {P : Program} (t e : TypeId) (z : Value) (size bytes : Nat) (ht : P.underlying t = some (.slice e)) (hinfo : (P.info? e).map (fun i => (i.zero, i.size, i.bytes)) = some (some z, size, bytes))
    (n c : Nat) (hnc : n ≤ c) (hbytes : bytes * c ≤ 281474976710656) (h63 : c ≤ 9223372036854775807) (w : World) :
    (Instr.makeSlice t (.int .i64 (n : Int)) (.int .i64 (c : Int))).run P w = .ok (.slice (some ⟨w.heap.size, 0, none⟩) n c) (w.alloc (.cells (madeCells z.cells (c * size)) e)) := by
  obtain ⟨i, hi, hz, rfl, rfl⟩ := info_parts hinfo
  have hb : (i.bytes : Int) * (c : Int) ≤ 281474976710656 := by
    have h : ((i.bytes * c : Nat) : Int) ≤ 281474976710656 := by omega
    rwa [Int.natCast_mul] at h
  have hr := run_make (P := P) w t e i z ht hi hz .i64 .i64 n c (by omega) (by omega) hb (by omega)
  simp only [Int.toNat_natCast] at hr
  exact hr
/-- A slice literal of one digest. -/
theorem run_buildSlice_D {P : Program} (t e : TypeId) (z : Array Value) (bytes : Nat) (hz : z.size = 4) (ht : P.underlying t = some (.slice e)) (hinfo : (P.info? e).map (fun i => (i.zero, i.size, i.bytes)) = some (some (.agg z), 4, bytes))
    (d : D) (w : World) : (Instr.buildSlice t 1 #[(0, .agg (us d.1))]).run P w = .ok (.slice (some ⟨w.heap.size, 0, none⟩) 1 1) (w.alloc (.cells (us d.1) e)) := by
  obtain ⟨i, hi, hzz, hsz, rfl⟩ := info_parts hinfo
  obtain ⟨l, hl⟩ := d
  match l, hl with
  | [x0, x1, x2, x3], hl =>
    match z, hz with
    | ⟨[z0, z1, z2, z3]⟩, _ =>
      simp [Instr.buildSlice, run_underlying ht, sizeOf, typeInfo, hi, hsz, zeroValue, hzz, Value.cells, us, Instr.fill, go_sem]
theorem wpList_buildSlice_D {P : Program} {ops : Array Oper} {rest : List Oper} {o : Oper} {a : Act} {Q : Exit → Act → World → Prop} {w : World} (hgd : o.guard = none) (t e : TypeId) (x : Operand) (ho : o.op = .buildSlice t 1 #[(0, x)]) (z : Array Value) (bytes : Nat) (hz : z.size = 4) (ht : P.underlying t = some (.slice e)) (hinfo : (P.info? e).map (fun i => (i.zero, i.size, i.bytes)) = some (some (.agg z), 4, bytes))
    (d : D) (hx : a.eval x = .agg (us d.1)) (h : wpList P ops Q rest (a.put o.dst (.slice (some ⟨w.heap.size, 0, none⟩) 1 1)) (w.alloc (.cells (d.1.map u).toArray e))) : wpList P ops Q (o :: rest) a w :=
  wpList_plain hgd fun _ hK => by
    unfold Oper.wp execOp
    simp only [ho, List.map_toArray, List.map_cons, List.map_nil, hx, run_buildSlice_D t e z bytes hz ht hinfo d, Sem.run_bind, Result.andThen_ok]
    exact hK _ _ h
section
variable {P : Program}
theorem run_load_D {o : Oper} {a : Act} {w : World} (ty : TypeId) (x : Operand) (ho : o.op = .load ty x) (b off : Nat) (hx : a.eval x = .pointer (some ⟨b, off, none⟩)) (d : D)
    (hc : ∀ k, k < 4 → w.cell? ⟨b, off + k, none⟩ = some (u (d.1.getD k 0))) (e : TypeId) (hu : P.underlying ty = some (.array 4 e)) (hi : (P.info? ty).map (·.size) = some 4) :
    (execOp a.eval o).run P w = .ok (.value (.agg (us d.1))) w := by
  have hr : w.rangeAt b off (d.1.map u) := fun j v hv => by
    have hj : j < (d.1.map u).length := (List.getElem?_eq_some_iff.1 hv).1
    have hj4 : j < 4 := by simpa [d.2] using hj
    have := hc j hj4
    have h4 := d.2
    rw [List.getElem?_map, List.getElem?_eq_getElem (by omega)] at hv
    simp only [Option.map_some, Option.some.injEq] at hv
    rw [this, ← hv]
    simp [List.getD, List.getElem?_eq_getElem (show j < d.1.length by omega)]
  unfold execOp
  simp only [ho, hx, Instr.loadAt, Instr.sureAddr, Sem.run_bind, Sem.run_pure, Result.andThen_ok, run_loadVar_mid w b off ty (d.1.map u) _ hr hu rfl (by rw [hi, List.length_map, d.2])]
  rfl
theorem wpList_load_D {ops : Array Oper} {rest : List Oper} {o : Oper} {a : Act} {Q : Exit → Act → World → Prop} {w : World} (hgd : Region.wanted o (yielded ops a.tmps) = true) (ty : TypeId) (x : Operand) (ho : o.op = .load ty x) (b off : Nat) (hx : a.eval x = .pointer (some ⟨b, off, none⟩)) (d : D)
    (hc : ∀ k, k < 4 → w.cell? ⟨b, off + k, none⟩ = some (u (d.1.getD k 0))) (e : TypeId) (hu : P.underlying ty = some (.array 4 e)) (hi : (P.info? ty).map (·.size) = some 4)
    (h : wpList P ops Q rest (a.put o.dst (.agg (us d.1))) w) : wpList P ops Q (o :: rest) a w :=
  by
    unfold wpList
    rw [if_pos hgd]
    refine .inl ?_
    unfold Oper.wp
    rw [run_load_D ty x ho b off hx d hc e hu hi]
    exact h
theorem quiet_load_D {ops : Array Oper} {rest : List Oper} {C : World → Prop} {o : Oper} {a : Act} {Q : Act → Prop} (hgd : Region.wanted o (yielded ops a.tmps) = true) (ty : TypeId) (x : Operand) (ho : o.op = .load ty x) (b off : Nat) (hx : a.eval x = .pointer (some ⟨b, off, none⟩)) (d : D)
    (hc : ∀ w, C w → ∀ k, k < 4 → w.cell? ⟨b, off + k, none⟩ = some (u (d.1.getD k 0))) (e : TypeId) (hu : P.underlying ty = some (.array 4 e)) (hi : (P.info? ty).map (·.size) = some 4)
    (h : wpQuiet P ops C Q rest (a.put o.dst (.agg (us d.1)))) : wpQuiet P ops C Q (o :: rest) a :=
  quiet_val _ hgd (fun w hw => run_load_D ty x ho b off hx d (hc w hw) e hu hi) h
theorem results_row_tmp {fn : Func} {p q : Tmp} {ty : TypeId} (h : fn.results = #[.cell p ty, .tmp q]) (tmps : Array Value) (w : World) (g : Nat) (t : TypeId) (cs : Array Value) (fr : Nat × Nat) (d : TypeDesc)
    (hp : tmps.getD p undef = .pointer (some ⟨g, 0, none⟩)) (hg : w.heap[g]? = some (.cells cs t fr))
    (hu : P.underlying ty = some d) (hd : (match d with | .struct _ | .array _ _ => true | _ => false) = true) (hi : (P.info? ty).map (·.size) = some cs.size) :
    (results fn tmps).run P w = .ok (.tuple #[.agg cs, tmps.getD q undef]) w := by
  rw [results_cell_tmp h, hp]
  simp [asAddr, run_loadVar_row w g t ty cs fr d hg hu hd hi]
/-- append of a fresh block's elements onto a row of the call's own. -/
theorem wpList_append_new {ops : Array Oper} {rest : List Oper} {o : Oper} {a : Act} {Q : Exit → Act → World → Prop} {wr : World} (hgd : o.guard = none) (s x : Operand) (t : TypeId)
    (ho : o.op = .call { callee := .builtin .append, args := #[s, x], argTypes := #[t, t] })
    (base : Nat) (e : TypeId) (z : Value) (size bytes : Nat) (ht : P.underlying t = some (.slice e)) (hinfo : (P.info? e).map (fun i => (i.zero, i.size, i.bytes)) = some (some z, size, bytes))
    (hzs : z.cells.size = size) (hsz : 0 < size)
    (v : Value) (n : Nat) (xs : List Value) (hs : a.eval s = v) (hown : wr.ownsRow base e size v n xs)
    (m c : Nat) (news : List Value) (hx : a.eval x = .slice (some ⟨wr.heap.size, 0, none⟩) m c) (hl : news.length = m * size) (h1 : ∀ u ∈ news, u.oneCell' = true)
    (h63 : n + m ≤ maxLen) (hbytes : (n + m) * bytes ≤ 140737488355328) (hbase : base ≤ wr.heap.size)
    (h : ∀ v' w', w'.ownsRow base e size v' (n + m) (xs ++ news) → Below base wr w' → (∀ g, g < wr.heap.size → v.ownBlock ≠ some g → w'.heap[g]? = wr.heap[g]?) → wpList P ops Q rest (a.put o.dst v') w') : wpList P ops Q (o :: rest) a (wr.alloc (.cells news.toArray e)) := by
  obtain ⟨i, hi, hz0, hz1, hz2⟩ := info_parts hinfo
  refine wpList_append_own _ hgd s x t ho base e i z size bytes ht hi hz0 hz1 hz2 hzs hsz v n xs hs (hown.alloc _) ⟨wr.heap.size, 0, none⟩ m c news hx hl ?_ h1 h63 hbytes (Nat.le_trans hbase (by simp)) ?_
  · intro j y hy
    have hadd : (⟨wr.heap.size, 0, none⟩ : Addr).add j = ⟨wr.heap.size, j, none⟩ := by unfold Addr.add; split <;> simp_all
    rw [hadd, (Blk.new wr e news.toArray).cell j]
    simpa using hy
  · intro v' w' h2 h3 h4
    have hr := hown.lt
    refine h v' w' h2 ?_ (fun g hg hne => (h3.block g (by simp; omega) (fun e => hne e.symm)).trans (Below.heap_alloc wr _ g hg))
    exact ((Below.refl base wr).alloc hbase _).grown h3 (Nat.le_trans hbase (by simp)) fun k hk => (hr k hk).1
end
end Go.Proofs.YtamllmoakgnjoaaDoor
