import Derived.Test.YtjokaennipmmaaaDoorB3
import Derived.Test.YtjokaennipmmaaaDoorGen
import Derived.Laws.Tables
import Derived.Test.YtjokaennipmmaaaDoorStrs
import Derived.Test.YtjokaennipmmaaaDoorMore
/- The digests of a store's items, of the program and of the document. -/
namespace Go.Proofs.YtjokaennipmmaaaDoor
open Go.RowKit
def digE (s : ByteArray) : D := ofE s.data.toList
def digsE (ss : List ByteArray) : List D := ss.map digE
theorem digsE_take_succ (ss : List ByteArray) (j : Nat) (hj : j < ss.length) : digsE (ss.take (j + 1)) = digsE (ss.take j) ++ [digE (ss.getD j ByteArray.empty)] := by
  unfold digsE
  rw [List.take_succ_eq_append_getElem hj, List.map_append]
  simp [List.getD, hj]
theorem digsE_length (ss : List ByteArray) : (digsE ss).length = ss.length := by simp [digsE]
theorem digsE_getD (ss : List ByteArray) (j : Nat) (hj : j < ss.length) : (digsE ss).getD j D.zero = digE (ss.getD j ByteArray.empty) := by simp [digsE, List.getD, hj]
def small (ss : List ByteArray) : Prop := ∀ s ∈ ss, s.size ≤ 1000000
theorem small.at {ss : List ByteArray} (h : small ss) (j : Nat) (hj : j < ss.length) : (ss.getD j ByteArray.empty).size ≤ 1000000 := by
  rw [List.getD_eq_getElem?_getD, List.getElem?_eq_getElem hj]
  exact h _ (List.getElem_mem hj)
theorem rof_s (s : ByteArray) (w : World) (hm : s.size ≤ 1000000) :
    Calls Tryd.prog 43 #[.string s] w fun e w' => e = .returned (.agg (us (digE s).1)) ∧ Grow w w' := rof_c s.data.toList w (by rw [Array.length_toList]; exact hm)
end Go.Proofs.YtjokaennipmmaaaDoor
/- seedcornref42.Digests: the digests of a store's items. -/
namespace Go.Proofs.YtjokaennipmmaaaDoor
open Go.RowKit
end Go.Proofs.YtjokaennipmmaaaDoor
/- A head as a value: built, its parts, two heads compared. -/
namespace Go.Proofs.YtjokaennipmmaaaDoor
open Go.RowKit
/-- The cells of a head. -/
def hdC (k : Int) (d : D) : Array Value := (Value.int .i64 k :: d.1.map u).toArray
theorem hdC_size (k : Int) (d : D) : (hdC k d).size = 5 := by simp [hdC, d.2]
theorem hdC_one (k : Int) (d : D) : (hdC k d).all (·.oneCell') = true := by
  rw [Array.all_eq_true_iff_forall_mem]
  simp [hdC, Value.oneCell']
theorem hdC_root (k : Int) (d : D) : (hdC k d).extract 1 5 = us d.1 := by
  obtain ⟨l, hl⟩ := d
  match l, hl with
  | [x0, x1, x2, x3], _ => rfl
theorem hdC_get0 (k : Int) (d : D) : (hdC k d)[0]? = some (.int .i64 k) := rfl
theorem hdC_get (k : Int) (d : D) (j : Nat) (hj : j < 4) : (hdC k d)[1 + j]? = some (u (d.1.getD j 0)) := by
  have := D.get d j hj
  rw [Nat.add_comm]
  simpa [hdC] using this
theorem eqin_D9 (r r' : D) (w : World) : (Op.equalIn 9999 30 (.agg (us r.1)) (.agg (us r'.1))).run Tryd.prog w = .ok (decide (r = r')) w := by
  have h1 := run_equalIn_us w 9997 30 28 4 Tryd.underlying30 Tryd.underlying28 sizeOf_u32 r.1 r'.1 r.2 r'.2
  have h2 : (r.1 == r'.1) = decide (r = r') := by
    rw [Bool.eq_iff_iff]; simp [Subtype.ext_iff]
  rw [h2] at h1
  exact h1
section
variable {P : Program} {ops : Array Oper} {C : World → Prop}
/-- A struct or an array laid out of its parts: a quiet operation. -/
theorem quiet_build {o : Oper} {rest : List Oper} {Q : Act → Prop} {a : Act} (hgd : Region.wanted o (yielded ops a.tmps) = true) (ty : TypeId) (ps : Array (Nat × Operand)) (ho : o.op = .build ty ps) (vs : List (Nat × Value))
    (hv : (ps.map fun x => (x.1, a.eval x.2)) = vs.toArray) (v : Value) (hr : ∀ w, (Instr.build ty vs.toArray).run P w = .ok v w)
    (h : wpQuiet P ops C Q rest (a.put o.dst v)) : wpQuiet P ops C Q (o :: rest) a :=
  quiet_val v hgd (fun w _ => by unfold execOp; simp only [ho, hv, Sem.run_bind, hr, Result.andThen_ok, Sem.run_pure]) h
theorem run_build_op {o : Oper} {a : Act} {w : World} (ty : TypeId) (ps : Array (Nat × Operand)) (ho : o.op = .build ty ps) (vs : List (Nat × Value))
    (hv : (ps.map fun x => (x.1, a.eval x.2)) = vs.toArray) (v : Value) (hr : (Instr.build ty vs.toArray).run P w = .ok v w) : (execOp a.eval o).run P w = .ok (.value v) w := by
  unfold execOp; simp only [ho, hv, Sem.run_bind, hr, Result.andThen_ok, Sem.run_pure]
theorem wpList_build {o : Oper} {rest : List Oper} {Q : Exit → Act → World → Prop} {a : Act} {w : World} (hgd : Region.wanted o (yielded ops a.tmps) = true) (ty : TypeId) (ps : Array (Nat × Operand)) (ho : o.op = .build ty ps) (vs : List (Nat × Value))
    (hv : (ps.map fun x => (x.1, a.eval x.2)) = vs.toArray) (v : Value) (hr : (Instr.build ty vs.toArray).run P w = .ok v w)
    (h : wpList P ops Q rest (a.put o.dst v) w) : wpList P ops Q (o :: rest) a w := by
  unfold wpList
  rw [if_pos hgd]
  refine .inl ?_
  unfold Oper.wp
  rw [run_build_op ty ps ho vs hv v hr]
  exact h
end
end Go.Proofs.YtjokaennipmmaaaDoor
/- store.Root, store.Head and head.Lost. -/
namespace Go.Proofs.YtjokaennipmmaaaDoor
open Go.RowKit
/-- What a head tells of a store: the number of the error. -/
def lostE (ss : List ByteArray) (k : Int) (r : D) : Int :=
  if k < 0 then 1 else if (ss.length : Int) < k then 6 else if rootE noneE (digsE (ss.take k.toNat)) = r then 0 else 8
end Go.Proofs.YtjokaennipmmaaaDoor
/- head.Of and seedcornref43.Of: the digest of a head. -/
namespace Go.Proofs.YtjokaennipmmaaaDoor
open Go.RowKit
/-- The words of a head: its size, as 64 bits, and its root. -/
def hdM (k : Int) : Nat := (IntKind.u64.wrap k).toNat
theorem hdM_eq (k : Int) : IntKind.u64.wrap k = (hdM k : Int) := by
  unfold hdM
  have : 0 ≤ IntKind.u64.wrap k := by rw [IntKind.wrap_u64]; omega
  omega
def hdW (k : Int) (r : D) : List UInt32 := [UInt32.ofNat (hdM k), UInt32.ofNat (hdM k / 4294967296)] ++ r.1
theorem D.four (r : D) : ∃ x0 x1 x2 x3, r = ⟨[x0, x1, x2, x3], rfl⟩ := by
  obtain ⟨l, hl⟩ := r
  match l, hl with
  | [x0, x1, x2, x3], _ => exact ⟨x0, x1, x2, x3, rfl⟩
def hdE (k : Int) (r : D) : D := pairE (ofE (104 :: bytesE (hdW k r))) (ofE [104, 101, 97, 100])
theorem own_of_us {w : World} {b : Nat} {l : List UInt32} {n : Nat} (h : Blk w b 28 (us l)) (hl : l.length = n) (hn : n ≤ maxLen) {base : Nat} (hb : base ≤ b) : w.ownsRow base 28 1 (.slice (some ⟨b, 0, none⟩) n n) n (l.map u) := by
  refine ⟨by simp [hl], .inr ⟨b, n, _, rfl, hb, h, Nat.le_refl _, hn, by simp [us, hl], ?_⟩⟩
  simp only [Nat.mul_one]
  exact List.take_of_length_le (by simp [us, hl])
end Go.Proofs.YtjokaennipmmaaaDoor
/- seedcornlaw43.alive answers true: the examples of the document. -/
namespace Go.Proofs.YtjokaennipmmaaaDoor
open Go.RowKit
def abS : ByteArray := ⟨#[97, 98]⟩
theorem SlS.of_blk {w : World} {b n : Nat} {e : TypeId} {l : List ByteArray} (h : Blk w b e (l.map Value.string).toArray) (hl : l.length = n) (hm : n ≤ maxLen) : SlS w (some ⟨b, 0, none⟩) n n l :=
  ⟨Nat.le_refl _, hm, hl, fun _ => ⟨b, 0, rfl, h.lt, fun i hi => by rw [h.cell, Nat.zero_add]; simp [List.getD, hl, hi]⟩⟩
theorem SlS.none (w : World) : SlS w none 0 0 [] := ⟨Nat.le_refl _, by simp [maxLen], rfl, fun h => by omega⟩
theorem root_ab : rootE noneE (digsE [abS]) = ofE [97, 98] := by
  unfold digsE
  rw [List.map_cons, List.map_nil, rootE_one]; rfl
theorem small_ab : small [abS] := by
  intro s hs
  have : s = abS := by simpa using hs
  subst this; decide
end Go.Proofs.YtjokaennipmmaaaDoor
/- seedcornref43.Lost: has a store lost what a head says? -/
namespace Go.Proofs.YtjokaennipmmaaaDoor
open Go.RowKit
end Go.Proofs.YtjokaennipmmaaaDoor
/- seedcornref42.Few: few items, of few bytes each? -/
namespace Go.Proofs.YtjokaennipmmaaaDoor
open Go.RowKit
def fewE (ss : List ByteArray) (most bytes : Nat) : Bool := decide (ss.length ≤ most) && ss.all fun s => decide (s.size ≤ bytes)
theorem fewE_spec {ss : List ByteArray} {most bytes : Nat} (h : fewE ss most bytes = true) : ss.length ≤ most ∧ ∀ s ∈ ss, s.size ≤ bytes := by
  unfold fewE at h
  simp only [Bool.and_eq_true, decide_eq_true_eq, List.all_eq_true] at h
  exact h
theorem fewE_bad {ss : List ByteArray} {most bytes j : Nat} (hj : j < ss.length) (h : bytes < (ss.getD j ByteArray.empty).size) : fewE ss most bytes = false := by
  cases hf : fewE ss most bytes with
  | false => rfl
  | true =>
    have := (fewE_spec hf).2 (ss.getD j ByteArray.empty) (by rw [List.getD_eq_getElem?_getD, List.getElem?_eq_getElem hj]; exact List.getElem_mem hj)
    omega
theorem fewE_good {ss : List ByteArray} {most bytes : Nat} (h : ∀ j, j < ss.length → (ss.getD j ByteArray.empty).size ≤ bytes) (hl : ss.length ≤ most) : fewE ss most bytes = true := by
  unfold fewE
  simp only [Bool.and_eq_true, decide_eq_true_eq, List.all_eq_true]
  refine ⟨hl, fun s hs => ?_⟩
  obtain ⟨j, hj, rfl⟩ := List.getElem_of_mem hs
  have := h j hj
  rw [List.getD_eq_getElem?_getD, List.getElem?_eq_getElem hj] at this
  exact this
theorem fewE_long {ss : List ByteArray} {most bytes : Nat} (h : most < ss.length) : fewE ss most bytes = false := by
  unfold fewE
  rw [decide_eq_false (by omega)]; rfl
end Go.Proofs.YtjokaennipmmaaaDoor
/- seedcornref42.Right: may a store be? -/
namespace Go.Proofs.YtjokaennipmmaaaDoor
open Go.RowKit
def rightE (ss : List ByteArray) : Bool := decide (ss.length ≤ 1000) && decide (digsE ss).Nodup
theorem nodup_of {l : List D} (h : ∀ i k, i < l.length → k < i → l.getD i D.zero ≠ l.getD k D.zero) : l.Nodup := by
  unfold List.Nodup
  rw [List.pairwise_iff_getElem]
  intro i j hi hj hij e
  have := h j i hj hij
  apply this
  simp only [List.getD_eq_getElem?_getD, List.getElem?_eq_getElem hi, List.getElem?_eq_getElem hj, Option.getD_some]
  exact e.symm
theorem not_nodup {l : List D} {i k : Nat} (hi : i < l.length) (hk : k < i) (h : l.getD i D.zero = l.getD k D.zero) : ¬ l.Nodup := by
  intro hn
  unfold List.Nodup at hn
  rw [List.pairwise_iff_getElem] at hn
  apply hn k i (by omega) hi hk
  simp only [List.getD_eq_getElem?_getD, List.getElem?_eq_getElem hi, List.getElem?_eq_getElem (show k < l.length by omega), Option.getD_some] at h
  exact h.symm
end Go.Proofs.YtjokaennipmmaaaDoor
/- The walk of the law HeadLost: it answers true. -/
namespace Go.Proofs.YtjokaennipmmaaaDoor
open Go.RowKit
theorem fewE_small {ss : List ByteArray} {most bytes : Nat} (h : fewE ss most bytes = true) (hb : bytes ≤ 1000000) : small ss := fun s hs => Nat.le_trans ((fewE_spec h).2 s hs) hb
end Go.Proofs.YtjokaennipmmaaaDoor
/- store.find and seedcornref42.Find: the place of the first item of a digest, or -1. -/
namespace Go.Proofs.YtjokaennipmmaaaDoor
open Go.RowKit
def findE (ss : List ByteArray) (d : D) : Int := match ss.findIdx? (fun s => decide (digE s = d)) with | some j => (j : Int) | none => -1
theorem findE_at {ss : List ByteArray} {d : D} {j : Nat} (hj : j < ss.length) (hb : ∀ q, q < j → digE (ss.getD q ByteArray.empty) ≠ d) (h : digE (ss.getD j ByteArray.empty) = d) : findE ss d = (j : Int) := by
  have : ss.findIdx? (fun s => decide (digE s = d)) = some j := by
    rw [List.findIdx?_eq_some_iff_getElem]
    refine ⟨hj, ?_, fun q hq => ?_⟩
    · rw [List.getD_eq_getElem?_getD, List.getElem?_eq_getElem hj] at h
      simpa using h
    · have := hb q hq
      rw [List.getD_eq_getElem?_getD, List.getElem?_eq_getElem (by omega)] at this
      simpa using this
  unfold findE
  rw [this]
theorem findE_no {ss : List ByteArray} {d : D} (hb : ∀ q, q < ss.length → digE (ss.getD q ByteArray.empty) ≠ d) : findE ss d = -1 := by
  have : ss.findIdx? (fun s => decide (digE s = d)) = none := by
    rw [List.findIdx?_eq_none_iff]
    intro s hs
    obtain ⟨q, hq, rfl⟩ := List.getElem_of_mem hs
    have := hb q hq
    rw [List.getD_eq_getElem?_getD, List.getElem?_eq_getElem hq] at this
    simpa using this
  unfold findE
  rw [this]
theorem findE_cases (ss : List ByteArray) (d : D) : findE ss d = -1 ∨ ∃ j : Nat, j < ss.length ∧ findE ss d = (j : Int) := by
  unfold findE
  cases h : ss.findIdx? (fun s => decide (digE s = d)) with
  | none => exact .inl rfl
  | some j =>
    rw [List.findIdx?_eq_some_iff_getElem] at h
    obtain ⟨hj, -⟩ := h
    exact .inr ⟨j, hj, rfl⟩
end Go.Proofs.YtjokaennipmmaaaDoor
/- store.find and seedcornref42.Find answer findE. -/
namespace Go.Proofs.YtjokaennipmmaaaDoor
open Go.RowKit
end Go.Proofs.YtjokaennipmmaaaDoor
/- store.Get and seedcornref42.Get answer getE. -/
namespace Go.Proofs.YtjokaennipmmaaaDoor
open Go.RowKit
/-- What is got by a digest: the item, or nothing and the number of the error. -/
def getE (ss : List ByteArray) (d : D) : ByteArray × Int := if findE ss d < 0 then (ByteArray.empty, 6) else (ss.getD (findE ss d).toNat ByteArray.empty, 0)
end Go.Proofs.YtjokaennipmmaaaDoor
/- append of one string to a full slice of strings that may be anybody's: a new row; no law of the program is named here. -/
namespace Go.Proofs.YtjokaennipmmaaaDoor
open Go.RowKit
section
variable {P : Program}
theorem fullS_new {w : World} {A : Option Addr} {n c : Nat} {ss : List ByteArray} (hs : SlS w A n c ss) (s : ByteArray) (e : TypeId) (Z : Array Value) (cap : Nat) (h1 : n + 1 ≤ cap) (h2 : cap ≤ maxLen) :
    SlS (w.drew.alloc (.cells ((ss.map Value.string).toArray ++ [Value.string s].toArray ++ Z) e)) (some ⟨w.heap.size, 0, none⟩) (n + 1) cap (ss ++ [s]) ∧ Grow w (w.drew.alloc (.cells ((ss.map Value.string).toArray ++ [Value.string s].toArray ++ Z) e)) := by
  refine ⟨⟨h1, h2, by simp [hs.2.2.1], fun _ => ⟨w.heap.size, 0, rfl, by simp, fun i hi => ?_⟩⟩, (Grow.refl w).drew.alloc (Nat.le_refl _) _⟩
  have hc : ((ss.map Value.string).toArray ++ [Value.string s].toArray ++ Z) = ((ss ++ [s]).map Value.string).toArray ++ Z := by simp
  have hB : Blk (w.drew.alloc (.cells ((ss.map Value.string).toArray ++ [Value.string s].toArray ++ Z) e)) w.heap.size e _ := Blk.new w.drew e _
  have hl : i < (ss ++ [s]).length := by simp [hs.2.2.1]; omega
  rw [Nat.zero_add, hB.cell, hc, Array.getElem?_append_left (by simpa using hl), List.getElem?_toArray, List.getElem?_map, List.getD_eq_getElem?_getD, List.getElem?_eq_getElem hl]
  rfl
theorem run_append_fullS (t ty e : TypeId) (z : Value) (bytes : Nat) (ht : P.underlying t = some (.slice e)) (hinfo : (P.info? e).map (fun i => (i.zero, i.size, i.bytes)) = some (some z, 1, bytes))
    {w : World} {A : Option Addr} {n : Nat} {ss : List ByteArray} (hs : SlS w A n n ss) (b : Nat) (s : ByteArray) (hB : Blk w b e #[.string s]) (hm : n + 1 ≤ maxLen) (hby : (n + 1) * bytes ≤ 140737488355328) :
    ∃ A' c' w', (Builtin.append_ #[t, t] ty #[.slice A n n, .slice (some ⟨b, 0, none⟩) 1 1]).run P w = .ok (.slice A' (n + 1) c') w' ∧ SlS w' A' (n + 1) c' (ss ++ [s]) ∧ Grow w w' := by
  obtain ⟨i, hi, hz, hsz, rfl⟩ := info_parts hinfo
  have hm' := hm
  simp only [maxLen] at hm'
  have hnews : ∀ j v, [Value.string s][j]? = some v → w.cell? ((⟨b, 0, none⟩ : Addr).add j) = some v := fun j v hv => by
    rw [Addr.add_mid, hB.cell, Nat.zero_add]
    simpa using hv
  cases A with
  | none =>
    have hn : n = 0 := by
      rcases Nat.eq_zero_or_pos n with h | h
      · exact h
      · obtain ⟨g, o, e, _⟩ := hs.2.2.2 h
        cases e
    subst hn
    have hss : ss = [] := List.eq_nil_of_length_eq_zero hs.2.2.1
    subst hss
    have hr := run_append_nil (P := P) w t ty e i z ht hi hz ⟨b, 0, none⟩ 1 1 [Value.string s] (by rw [hsz]; rfl) hnews (by omega) (by omega) (by simp only [Nat.zero_add] at hby; omega)
    have hf := fullS_new hs s e (Builtin.zeroCells z.cells (grownCap w 1 0 e - 1)) (grownCap w 1 0 e) (grownCap_ge _ _ _ _) (grownCap_le_maxLen _ _ _ _ (by simp [maxLen]))
    simp only [List.map_nil, List.nil_append, Array.empty_append] at hf hr
    exact ⟨_, _, _, hr, hf.1, hf.2⟩
  | some ad =>
    have holds : ∀ j v, (ss.map Value.string)[j]? = some v → w.cell? (ad.add j) = some v := fun j v hv => by
      have hj : j < ss.length := by simpa using (List.getElem?_eq_some_iff.1 hv).1
      obtain ⟨g, o, e', _, hc⟩ := hs.2.2.2 (by rw [← hs.2.2.1]; omega)
      injection e' with e'
      subst e'
      rw [Addr.add_mid, hc j (by rw [← hs.2.2.1]; exact hj), List.getD_eq_getElem?_getD, List.getElem?_eq_getElem hj]
      rw [List.getElem?_map, List.getElem?_eq_getElem hj] at hv
      exact hv
    have hr := run_append_grow (P := P) w t ty e i z ht hi hz ad n n (ss.map Value.string) (by rw [hsz]; simp [hs.2.2.1]) holds ⟨b, 0, none⟩ 1 1 [Value.string s] (by rw [hsz]; rfl) hnews (by omega) (by omega) (growslice_fits (by omega) hby)
    have hf := fullS_new hs s e (Builtin.zeroCells z.cells (grownCap w (n + 1) n e - (n + 1))) (grownCap w (n + 1) n e) (grownCap_ge _ _ _ _) (grownCap_le_maxLen _ _ _ _ hm)
    exact ⟨_, _, _, hr, hf.1, hf.2⟩
theorem wpList_append_fullS {ops : Array Oper} {rest : List Oper} {o : Oper} {a : Act} {Q : Exit → Act → World → Prop} {w : World} (hgd : o.guard = none) (s x : Operand) (t : TypeId)
    (ho : o.op = .call { callee := .builtin .append, args := #[s, x], argTypes := #[t, t] })
    (e : TypeId) (z : Value) (bytes : Nat) (ht : P.underlying t = some (.slice e)) (hinfo : (P.info? e).map (fun i => (i.zero, i.size, i.bytes)) = some (some z, 1, bytes))
    (A : Option Addr) (n : Nat) (ss : List ByteArray) (hv : a.eval s = .slice A n n) (hs : SlS w A n n ss) (b : Nat) (y : ByteArray) (hx : a.eval x = .slice (some ⟨b, 0, none⟩) 1 1) (hB : Blk w b e #[.string y]) (hm : n + 1 ≤ maxLen) (hby : (n + 1) * bytes ≤ 140737488355328)
    (h : ∀ A' c' w', SlS w' A' (n + 1) c' (ss ++ [y]) → Grow w w' → wpList P ops Q rest (a.put o.dst (.slice A' (n + 1) c')) w') : wpList P ops Q (o :: rest) a w := by
  refine wpList_plain hgd fun K hK' => ?_
  obtain ⟨A', c', w', hrun, r1, r2⟩ := run_append_fullS (P := P) t o.type e z bytes ht hinfo hs b y hB hm hby
  unfold Oper.wp
  simp [execOp, ho, resolve, invoke, builtin, hv, hx, hrun, Result.andThen]
  exact hK' _ _ (h A' c' w' r1 r2)
end
end Go.Proofs.YtjokaennipmmaaaDoor
/- A slice literal of one string; no law of the program is named here. -/
namespace Go.Proofs.YtjokaennipmmaaaDoor
open Go.RowKit
section
variable {P : Program}
theorem run_buildSlice_S (t e : TypeId) (z : ByteArray) (bytes : Nat) (ht : P.underlying t = some (.slice e)) (hinfo : (P.info? e).map (fun i => (i.zero, i.size, i.bytes)) = some (some (.string z), 1, bytes))
    (s : ByteArray) (w : World) : (Instr.buildSlice t 1 #[(0, .string s)]).run P w = .ok (.slice (some ⟨w.heap.size, 0, none⟩) 1 1) (w.alloc (.cells #[.string s] e)) := by
  obtain ⟨i, hi, hzz, hsz, rfl⟩ := info_parts hinfo
  simp [Instr.buildSlice, run_underlying ht, sizeOf, typeInfo, hi, hsz, zeroValue, hzz, Value.cells, Instr.fill, go_sem]
theorem wpList_buildSlice_S {ops : Array Oper} {rest : List Oper} {o : Oper} {a : Act} {Q : Exit → Act → World → Prop} {w : World} (hgd : o.guard = none) (t e : TypeId) (x : Operand) (ho : o.op = .buildSlice t 1 #[(0, x)]) (z : ByteArray) (bytes : Nat) (ht : P.underlying t = some (.slice e)) (hinfo : (P.info? e).map (fun i => (i.zero, i.size, i.bytes)) = some (some (.string z), 1, bytes))
    (s : ByteArray) (hx : a.eval x = .string s) (h : wpList P ops Q rest (a.put o.dst (.slice (some ⟨w.heap.size, 0, none⟩) 1 1)) (w.alloc (.cells #[.string s] e))) : wpList P ops Q (o :: rest) a w :=
  wpList_plain hgd fun _ hK => by
    unfold Oper.wp execOp
    simp only [ho, List.map_toArray, List.map_cons, List.map_nil, hx, run_buildSlice_S t e z bytes ht hinfo s, Sem.run_bind, Result.andThen_ok]
    exact hK _ _ h
/-- Results: a struct's cell and two slots. -/
theorem results_row_tmp2 {fn : Func} {p q r : Tmp} {ty : TypeId} (h : fn.results = #[.cell p ty, .tmp q, .tmp r]) (tmps : Array Value) (w : World) (g : Nat) (t : TypeId) (cs : Array Value) (fr : Nat × Nat) (d : TypeDesc)
    (hp : tmps.getD p undef = .pointer (some ⟨g, 0, none⟩)) (hg : w.heap[g]? = some (.cells cs t fr))
    (hu : P.underlying ty = some d) (hd : (match d with | .struct _ | .array _ _ => true | _ => false) = true) (hi : (P.info? ty).map (·.size) = some cs.size) :
    (results fn tmps).run P w = .ok (.tuple #[.agg cs, tmps.getD q undef, tmps.getD r undef]) w := by
  have h0 : (results fn tmps).run P w = ((asAddr (tmps.getD p undef)).run P w).andThen fun a w₁ => ((loadVar ty a).run P w₁).andThen fun v w₂ => .ok (.tuple #[v, tmps.getD q undef, tmps.getD r undef]) w₂ := by
    simp only [results, h]
    simp [Sem.run_bind, Result.andThen]
  rw [h0, hp]
  simp [asAddr, run_loadVar_row w g t ty cs fr d hg hu hd hi]
end
end Go.Proofs.YtjokaennipmmaaaDoor
/- store.Add answers addE: the store that comes of it, the place, and the number of the error. -/
namespace Go.Proofs.YtjokaennipmmaaaDoor
open Go.RowKit
/-- What comes of adding an item. -/
def addE (ss : List ByteArray) (a : ByteArray) : List ByteArray × Int × Int :=
  if 0 ≤ findE ss (digE a) then (if ss.getD (findE ss (digE a)).toNat ByteArray.empty = a then (ss, findE ss (digE a), 0) else ([], 0, 8))
  else if 1000 ≤ ss.length then ([], 0, 2) else (ss ++ [a], ss.length, 0)
theorem addE_same {ss : List ByteArray} {a : ByteArray} {j : Nat} (h : findE ss (digE a) = (j : Int)) (he : ss.getD j ByteArray.empty = a) : addE ss a = (ss, (j : Int), 0) := by
  unfold addE; rw [h, if_pos (by omega), Int.toNat_natCast, if_pos he]
theorem addE_other {ss : List ByteArray} {a : ByteArray} {j : Nat} (h : findE ss (digE a) = (j : Int)) (he : ss.getD j ByteArray.empty ≠ a) : addE ss a = ([], 0, 8) := by
  unfold addE; rw [h, if_pos (by omega), Int.toNat_natCast, if_neg he]
theorem addE_full {ss : List ByteArray} {a : ByteArray} (h : findE ss (digE a) = -1) (hl : 1000 ≤ ss.length) : addE ss a = ([], 0, 2) := by
  unfold addE; rw [h, if_neg (by omega), if_pos hl]
theorem addE_new {ss : List ByteArray} {a : ByteArray} (h : findE ss (digE a) = -1) (hl : ss.length < 1000) : addE ss a = (ss ++ [a], (ss.length : Int), 0) := by
  unfold addE; rw [h, if_neg (by omega), if_neg (by omega)]
theorem info_strg : (Tryd.prog.info? 9).map (fun i => (i.zero, i.size, i.bytes)) = some (some (.string ByteArray.empty), 1, 16) := by kernel_rfl
theorem SlS.setRow {w : World} {A A0 : Option Addr} {n c n0 c0 g : Nat} {l : List ByteArray} {e : TypeId} (h : SlS w A n c l) (hB : Blk w g e #[.slice A0 n0 c0]) (cs : Array Value) : SlS (w.setRow g cs) A n c l := by
  obtain ⟨h1, h2, h3, h4⟩ := h
  refine ⟨h1, h2, h3, fun hn => ?_⟩
  obtain ⟨g', o, e', hl, hc⟩ := h4 hn
  have hne : g' ≠ g := by
    intro he
    subst he
    have := hc 0 hn
    rw [hB.cell] at this
    rcases o with _ | o <;> simp at this
  refine ⟨g', o, e', by simpa using hl, fun i hi => ?_⟩
  exact (cell_setRow_other w g cs ⟨g', o + i, Option.none⟩ hne).trans (hc i hi)
theorem st_one (A : Option Addr) (n c : Nat) : (#[Value.slice A n c]).all (·.oneCell') = true := by simp [Value.oneCell']
end Go.Proofs.YtjokaennipmmaaaDoor
/- seedcornlaw42.small answers whether a store has few items, of few bytes each, no one twice; and facts of the digest of "ab" (awake). -/
namespace Go.Proofs.YtjokaennipmmaaaDoor
open Go.RowKit
theorem fewE_small42 {ss : List ByteArray} {most bytes : Nat} (h : fewE ss most bytes = true) (hb : bytes ≤ 1000000) : small ss := fun s hs => Nat.le_trans ((fewE_spec h).2 s hs) hb
theorem ab_nz : decide (ofE [97, 98] = D.zero) = false := by decide
end Go.Proofs.YtjokaennipmmaaaDoor
