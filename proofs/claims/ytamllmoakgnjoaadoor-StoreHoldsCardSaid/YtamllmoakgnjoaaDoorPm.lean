import Derived.Test.YtamllmoakgnjoaaDoorLib
import Derived.Orders
import Derived.Deep.AppendSrc
import Derived.Laws.Slices
import Derived.Test.YtamllmoakgnjoaaDoorD
import Derived.Deep.MidRow
import Derived.Deep.Upon
import Derived.Test.YtamllmoakgnjoaaDoorAny
/- A machine of plain values, and what its values stand for in a world of the model: slices bear their contents, boxes are numbered; no program is named here. -/
namespace Go.Proofs.YtamllmoakgnjoaaDoor
open Go.RowKit

/-- Of a slice: what is known of its room: nothing; none; it is the call's own row number t. -/
inductive K where
  | any | full | own (t : Nat)
/-- Plain values. A slice has its elements' cells; a pointer names a box; or it points at cells that nobody writes. -/
inductive PV where
  | v (x : Value)
  | agg (cs : List PV)
  | tup (vs : List PV)
  | sl (k : K) (es : List (List PV))
  | ptr (b off : Nat)
  | ro (cs : List PV)
  | top
/-- A world, the cells that are read only, the boxes' blocks, the own rows' values. -/
structure Env where
  w : World
  F : Nat → Nat → Prop
  β : Nat → Option Nat
  O : Nat → Option (Value × Nat)
/-- The same world, no boxes and no own rows: so are the cells that are read only. -/
def Env.inn (E : Env) : Env := ⟨E.w, E.F, fun _ => none, fun _ => none⟩
inductive Rep : Env → PV → Value → Prop
  | v {E : Env} (x : Value) : Rep E (.v x) x
  | top {E : Env} (x : Value) : Rep E .top x
  | agg {E : Env} (cs : List PV) (vs : Array Value) (hl : cs.length = vs.size) (h : ∀ i, i < cs.length → Rep E (cs.getD i .top) (vs.getD i undef)) : Rep E (.agg cs) (.agg vs)
  | tup {E : Env} (cs : List PV) (vs : Array Value) (hl : cs.length = vs.size) (h : ∀ i, i < cs.length → Rep E (cs.getD i .top) (vs.getD i undef)) : Rep E (.tup cs) (.tuple vs)
  | ptr {E : Env} (b off g : Nat) (h : E.β b = some g) : Rep E (.ptr b off) (.pointer (some ⟨g, off, none⟩))
  | ro {E : Env} (cs : List PV) (g o : Nat) (val : Nat → Value) (hc : ∀ i, i < cs.length → E.w.cell? ⟨g, o + i, none⟩ = some (val i) ∧ E.F g (o + i) ∧ (val i).oneCell' = true)
      (hr : ∀ i, i < cs.length → Rep E.inn (cs.getD i .top) (val i)) : Rep E (.ro cs) (.pointer (some ⟨g, o, none⟩))
  | sl {E : Env} (k : K) (es : List (List PV)) (A : Option Addr) (c g o sz : Nat) (val : Nat → Nat → Value) (h1 : es.length ≤ c) (h2 : c ≤ maxLen) (h3 : k = .full → c = es.length)
      (h4 : ∀ t, k = .own t → ∃ v n, E.O t = some (v, n) ∧ es.length ≤ n ∧ (es.length = n → v = .slice A es.length c))
      (h5 : ∀ i, i < es.length → (es.getD i []).length = sz) (h6 : es ≠ [] → A = some ⟨g, o, none⟩)
      (hc : ∀ i j, i < es.length → j < sz → E.w.cell? ⟨g, o + i * sz + j, none⟩ = some (val i j) ∧ E.F g (o + i * sz + j) ∧ (val i j).oneCell' = true)
      (hr : ∀ i j, i < es.length → j < sz → Rep E.inn ((es.getD i []).getD j .top) (val i j)) : Rep E (.sl k es) (.slice A es.length c)

/-- The later one knows all that the former one does. -/
structure Env.le (E E' : Env) : Prop where
  F : ∀ g i, E.F g i → E'.F g i
  w : ∀ g i, E.F g i → E'.w.cell? ⟨g, i, none⟩ = E.w.cell? ⟨g, i, none⟩
  β : ∀ b g, E.β b = some g → E'.β b = some g
  O : ∀ t v n, E.O t = some (v, n) → ∃ v' n', E'.O t = some (v', n') ∧ n ≤ n' ∧ (n = n' → v' = v)
theorem Env.le.refl (E : Env) : E.le E := ⟨fun _ _ h => h, fun _ _ _ => rfl, fun _ _ h => h, fun _ v n h => ⟨v, n, h, Nat.le_refl _, fun _ => rfl⟩⟩
theorem Env.le.trans {a b c : Env} (h : a.le b) (k : b.le c) : a.le c :=
  ⟨fun g i x => k.F g i (h.F g i x), fun g i x => (k.w g i (h.F g i x)).trans (h.w g i x), fun b g x => k.β b g (h.β b g x), fun t v n x => by
    obtain ⟨v1, n1, e1, l1, q1⟩ := h.O t v n x
    obtain ⟨v2, n2, e2, l2, q2⟩ := k.O t v1 n1 e1
    exact ⟨v2, n2, e2, Nat.le_trans l1 l2, fun e => by rw [q2 (by omega), q1 (by omega)]⟩⟩
theorem Env.le.inn {E E' : Env} (h : E.le E') : E.inn.le E'.inn := ⟨h.F, h.w, fun _ _ h => (by cases h), fun _ _ _ h => (by cases h)⟩
theorem Env.inn_le (E : Env) : E.inn.le E := ⟨fun _ _ h => h, fun _ _ _ => rfl, fun _ _ h => (by cases h), fun _ _ _ h => (by cases h)⟩
theorem Rep.le {E E' : Env} (h : E.le E') {p : PV} {x : Value} (r : Rep E p x) : Rep E' p x := by
  induction r generalizing E' with
  | v x => exact .v x
  | top x => exact .top x
  | agg cs vs hl _ ih => exact .agg cs vs hl (fun i hi => ih i hi h)
  | tup cs vs hl _ ih => exact .tup cs vs hl (fun i hi => ih i hi h)
  | ptr b off g hb => exact .ptr b off g (h.β b g hb)
  | ro cs g o val hc _ ih => exact .ro cs g o val (fun i hi => ⟨(h.w _ _ (hc i hi).2.1).trans (hc i hi).1, h.F _ _ (hc i hi).2.1, (hc i hi).2.2⟩) (fun i hi => ih i hi h.inn)
  | sl k es A c g o sz val h1 h2 h3 h4 h5 h6 hc _ ih =>
    refine .sl k es A c g o sz val h1 h2 h3 (fun t ht => ?_) h5 h6 (fun i j hi hj => ⟨(h.w _ _ (hc i j hi hj).2.1).trans (hc i j hi hj).1, h.F _ _ (hc i j hi hj).2.1, (hc i j hi hj).2.2⟩) (fun i j hi hj => ih i j hi hj h.inn)
    obtain ⟨v, n, e, l, q⟩ := h4 t ht
    obtain ⟨v', n', e', l', q'⟩ := h.O t v n e
    exact ⟨v', n', e', by omega, fun e => by rw [q' (by omega), q (by omega)]⟩
/-- Nothing is known of the room. -/
def PV.dem1 : PV → PV
  | .sl _ es => .sl .any es
  | x => x
def PV.dem : PV → PV
  | .sl _ es => .sl .any es
  | .agg cs => .agg (cs.map PV.dem1)
  | .tup cs => .tup (cs.map PV.dem1)
  | x => x
/-- Values that a cell can hold, without pointers. -/
def PV.leaf : PV → Bool
  | .v x => x.oneCell'
  | .sl _ _ => true
  | _ => false
def PV.cells : PV → List PV
  | .agg cs => cs
  | x => [x]
/-- What a callee may be handed, and hand back: no pointers, nothing of rooms. -/
def PV.plain1 : PV → Bool
  | .v _ => true
  | .sl .any _ => true
  | _ => false
def PV.plain : PV → Bool
  | .v _ => true
  | .sl .any _ => true
  | .agg cs => cs.all PV.plain1
  | .tup cs => cs.all fun c => match c with | .agg ds => ds.all PV.plain1 | c => c.plain1
  | _ => false
theorem Rep.sl_any {E : Env} {k : K} {es : List (List PV)} {x : Value} (r : Rep E (.sl k es) x) : Rep E (.sl .any es) x := by
  cases r with
  | sl _ _ A c g o sz val h1 h2 h3 h4 h5 h6 hc hr => exact .sl .any es A c g o sz val h1 h2 (fun h => by cases h) (fun t h => by cases h) h5 h6 hc hr
theorem Rep.dem1 {E : Env} {p : PV} {x : Value} (r : Rep E p x) : Rep E p.dem1 x := by
  cases p with
  | sl k es => exact r.sl_any
  | _ => exact r
theorem Rep.dem {E : Env} {p : PV} {x : Value} (r : Rep E p x) : Rep E p.dem x := by
  cases p with
  | sl k es => exact r.sl_any
  | agg cs =>
    cases r with
    | agg _ vs hl h =>
      refine .agg _ vs (by simpa using hl) fun i hi => ?_
      have hi' : i < cs.length := by simpa using hi
      have := (h i hi').dem1
      simpa [List.getD, hi'] using this
  | tup cs =>
    cases r with
    | tup _ vs hl h =>
      refine .tup _ vs (by simpa using hl) fun i hi => ?_
      have hi' : i < cs.length := by simpa using hi
      have := (h i hi').dem1
      simpa [List.getD, hi'] using this
  | _ => exact r
theorem Rep.oneCell {E : Env} {p : PV} {x : Value} (r : Rep E p x) (h : p.leaf = true) : x.oneCell' = true := by
  cases r <;> simp_all [PV.leaf, Value.oneCell']
theorem Rep.inn_plain1 {E : Env} {p : PV} {x : Value} (r : Rep E p x) (h : p.plain1 = true) : Rep E.inn p x := by
  cases p with
  | v y => rw [show x = y by cases r; rfl]; exact .v _
  | sl k es =>
    cases k with
    | any =>
      cases r with
      | sl _ _ A c g o sz val h1 h2 h3 h4 h5 h6 hc hr => exact .sl .any es A c g o sz val h1 h2 (fun h => by cases h) (fun t h => by cases h) h5 h6 hc hr
    | _ => simp [PV.plain1] at h
  | _ => simp [PV.plain1] at h
theorem Rep.inn_plain {E : Env} {p : PV} {x : Value} (r : Rep E p x) (h : p.plain = true) : Rep E.inn p x := by
  cases p with
  | v y => exact r.inn_plain1 rfl
  | sl k es =>
    cases k with
    | any => exact r.inn_plain1 rfl
    | _ => simp [PV.plain] at h
  | agg cs =>
    cases r with
    | agg _ vs hl hr =>
      refine .agg _ _ hl fun i hi => (hr i hi).inn_plain1 ?_
      have := List.all_eq_true.1 h cs[i] (List.getElem_mem hi)
      simpa [List.getD, hi] using this
  | tup cs =>
    cases r with
    | tup _ vs hl hr =>
      refine .tup _ _ hl fun i hi => ?_
      have h1 := List.all_eq_true.1 h cs[i] (List.getElem_mem hi)
      have h2 := hr i hi
      have e : cs.getD i .top = cs[i] := by simp [List.getD, hi]
      rw [e] at h2 ⊢
      generalize cs[i] = q at *
      cases q with
      | agg ds =>
        generalize vs.getD i undef = z at *
        cases h2 with
        | agg _ us hl' hr' =>
          refine .agg _ _ hl' fun j hj => (hr' j hj).inn_plain1 ?_
          have := List.all_eq_true.1 h1 ds[j] (List.getElem_mem hj)
          simpa [List.getD, hj] using this
      | _ => exact h2.inn_plain1 h1
  | _ => simp [PV.plain] at h
/-- A value without slices and pointers, as the model's. -/
def PV.flat1 : PV → Option Value
  | .v x => some x
  | _ => none
def PV.flat : PV → Option Value
  | .v x => some x
  | .agg cs => (cs.mapM PV.flat1).map fun l => .agg l.toArray
  | _ => none
theorem mapM_flat1 {cs : List PV} {l : List Value} (h : cs.mapM PV.flat1 = some l) : cs = l.map PV.v := by
  induction cs generalizing l with
  | nil => simp at h; subst h; rfl
  | cons c cs ih =>
    rw [List.mapM_cons] at h
    cases c <;> simp [PV.flat1, Option.bind_eq_some_iff] at h
    obtain ⟨l', h1, rfl⟩ := h
    rw [ih h1]; rfl
theorem Rep.v_eq {E : Env} {x y : Value} (h : Rep E (.v x) y) : y = x := by cases h; rfl
theorem Rep.flat {E : Env} {p : PV} {x y : Value} (r : Rep E p x) (h : p.flat = some y) : x = y := by
  cases r with
  | v x => simpa [PV.flat] using h
  | agg cs vs hl hr =>
    simp only [PV.flat, Option.map_eq_some_iff] at h
    obtain ⟨l, h1, rfl⟩ := h
    have hcs := mapM_flat1 h1
    subst hcs
    congr 1
    apply Array.ext
    · simpa using hl.symm
    · intro i h1 h2
      have hi : i < l.length := by simpa using h2
      have := hr i (by simpa using hi)
      simp [List.getD, hi] at this
      have e : vs[i]?.getD undef = vs[i] := by simp [h1]
      rw [e] at this
      rw [this.v_eq]
      simp
  | _ => simp [PV.flat] at h
theorem nbeq_false {i k : Nat} (h : i ≠ k) : Nat.beq i k = false := by
  cases hb : Nat.beq i k with
  | false => rfl
  | true => exact absurd (Nat.eq_of_beq_eq_true hb) h
theorem nblt_false {i k : Nat} (h : Nat.blt i k = false) : ¬ i < k := by
  intro hl
  rw [show Nat.blt i k = true from Nat.blt_eq ▸ hl] at h
  cases h

/-- What is under a number: nothing; a number (under 0: the next number; else: how long the own row is); a box's cells. -/
inductive HC where
  | none | num (n : Nat) | row (n : Nat) (e : TypeId) | cells (cs : List PV)
/-- A state: how many slots, how many boxes came in, the slots, what is under numbers. -/
structure St where
  n : Nat
  np : Nat
  tm : Nat → PV
  hp : Nat → HC
def upd (hp : Nat → HC) (k : Nat) (c : HC) : Nat → HC := fun i => match Nat.beq i k with | true => c | false => hp i
def St.put (s : St) (d : Option Tmp) (x : PV) : St :=
  match d with
  | none => s
  | some d => match Nat.blt d s.n with
    | true => { s with tm := fun t => match Nat.beq t d with | true => x | false => s.tm t }
    | false => s
theorem upd_same (hp : Nat → HC) (k : Nat) (c : HC) : upd hp k c k = c := by simp [upd]
theorem upd_ne (hp : Nat → HC) {k i : Nat} (c : HC) (h : i ≠ k) : upd hp k c i = hp i := by
  simp [upd, nbeq_false h]
theorem St.put_hp (s : St) (d : Option Tmp) (x : PV) : (s.put d x).hp = s.hp := by
  unfold St.put
  cases d with
  | none => rfl
  | some d => simp only; split <;> rfl
theorem St.put_n (s : St) (d : Option Tmp) (x : PV) : (s.put d x).n = s.n := by
  unfold St.put
  cases d with
  | none => rfl
  | some d => simp only; split <;> rfl
theorem St.put_np (s : St) (d : Option Tmp) (x : PV) : (s.put d x).np = s.np := by
  unfold St.put
  cases d with
  | none => rfl
  | some d => simp only; split <;> rfl
theorem St.put_tm (s : St) (d : Option Tmp) (x : PV) (t : Nat) : (s.put d x).tm t = if d = some t ∧ t < s.n then x else s.tm t := by
  unfold St.put
  cases d with
  | none => simp
  | some d =>
    simp only
    split
    · rename_i h
      have hd : d < s.n := by simpa [Nat.blt_eq] using h
      by_cases e : t = d
      · subst e
        simp [hd]
      · have h2 : ¬ (some d = some t) := by intro e'; injection e' with e'; exact e e'.symm
        simp [nbeq_false e, h2]
    · rename_i h
      have hd : ¬ d < s.n := nblt_false h
      have h2 : ¬ (some d = some t ∧ t < s.n) := by rintro ⟨e, ht⟩; injection e with e; subst e; exact hd ht
      rw [if_neg h2]
end Go.Proofs.YtamllmoakgnjoaaDoor
/- Operations of the machine of plain values that make nothing and read no box, and that they say what the model does; no program is named here. -/
namespace Go.Proofs.YtamllmoakgnjoaaDoor
open Go.RowKit

def ofV1 : Value → PV
  | .slice none 0 0 => .sl .full []
  | x => .v x
def ofV : Value → PV
  | .slice none 0 0 => .sl .full []
  | .agg cs => .agg (cs.toList.map ofV1)
  | x => .v x
theorem Rep.nil {E : Env} (k : K) (hk : k = .any ∨ k = .full) : Rep E (.sl k []) (.slice none 0 0) :=
  .sl k [] none 0 0 0 0 (fun _ _ => undef) (Nat.le_refl _) (by simp [maxLen]) (fun _ => rfl) (fun t ht => by subst ht; simp at hk) (fun i hi => by simp at hi) (fun h => absurd rfl h) (fun i j hi => by simp at hi) (fun i j hi => by simp at hi)
theorem Rep.ofV1 {E : Env} (x : Value) : Rep E (ofV1 x) x := by
  unfold Proofs.YtamllmoakgnjoaaDoor.ofV1
  split
  · exact Rep.nil _ (.inr rfl)
  · exact .v _
theorem Rep.ofV {E : Env} (x : Value) : Rep E (ofV x) x := by
  unfold Proofs.YtamllmoakgnjoaaDoor.ofV
  split
  · exact Rep.nil _ (.inr rfl)
  · rename_i cs
    refine .agg _ _ (by simp) fun i hi => ?_
    have h1 : i < cs.size := by simpa using hi
    have := @Rep.ofV1 E cs[i]
    simpa [List.getD, h1] using this
  · exact .v _

/-- The program; what its variables point at; how many blocks lie ahead of a call's own; what holds of these. -/
structure Ctx where
  P : Program
  glob : Nat → PV
  gs : Nat
  GP : World → Prop
def Ctx.ev (C : Ctx) (s : St) : Operand → PV
  | .tmp t => s.tm t
  | .const v => ofV v
  | .global g => C.glob g
  | .func f => .v (.func (.func f) #[] #[])
def szP (P : Program) (t : TypeId) : Option Nat := (P.info? t).map (·.size)
def aggP (P : Program) (t : TypeId) : Option Bool :=
  match P.underlying t with
  | some (.struct _) | some (.array _ _) => some true
  | some _ => some false
  | none => none
/-- n of the cells, from number off on. -/
def sub (cs : List PV) (off n : Nat) : List PV :=
  match Nat.beq off 0, Nat.beq n cs.length with
  | true, true => cs
  | _, _ => (cs.drop off).take n
theorem sub_eq (cs : List PV) (off n : Nat) (h : off + n ≤ cs.length) : sub cs off n = (cs.drop off).take n := by
  unfold sub
  split
  · rename_i h1 h2
    have e1 := Nat.eq_of_beq_eq_true h1
    have e2 := Nat.eq_of_beq_eq_true h2
    subst e1 e2
    simp
  · rfl
theorem sub_len {cs : List PV} {off n : Nat} (h : off + n ≤ cs.length) : (sub cs off n).length = n := by
  rw [sub_eq cs off n h, List.length_take, List.length_drop]; omega
theorem sub_get {cs : List PV} {off n i : Nat} (h : off + n ≤ cs.length) (hi : i < n) : (sub cs off n).getD i .top = cs.getD (off + i) .top := by
  rw [sub_eq cs off n h]
  simp only [List.getD, List.getElem?_take_of_lt hi, List.getElem?_drop]
/-- The value's form is looked at first. -/
def PV.force (p : PV) (K : PV → Prop) : Prop :=
  match p with
  | .v x => K (.v x)
  | .agg cs => K (.agg cs)
  | .tup vs => K (.tup vs)
  | .sl k es => K (.sl k es)
  | .ptr b off => K (.ptr b off)
  | .ro cs => K (.ro cs)
  | .top => K .top
theorem force_eq (p : PV) (K : PV → Prop) : p.force K = K p := by cases p <;> rfl
def vcPart (P : Program) (t : TypeId) (cs : List PV) (off : Nat) (K : PV → Prop) : Prop :=
  match aggP P t, szP P t with
  | some true, some n => off + n ≤ cs.length ∧ K (.agg (sub cs off n))
  | some false, some _ => off < cs.length ∧ (cs.getD off .top).force K
  | _, _ => False
/-- The model's word on a comparison of two values without pointers. -/
def EqSpec (P : Program) (t : TypeId) (x y : Value) (b : Bool) : Prop :=
  ∀ (o o' : Operand) (w : World), (eqGuard .eql t o o' x y).run P w = .ok () w ∧ (eqGuard .neq t o o' x y).run P w = .ok () w ∧ (Op.equal t x y).run P w = .ok b w
def vcInt (op : BinOp) (k k' : IntKind) (a b : Int) (K : PV → Prop) : Prop :=
  match op with
  | .shl => 0 ≤ b ∧ K (.v (.int k (k.wrap (a * 2 ^ (min b.toNat k.bits)))))
  | .shr => 0 ≤ b ∧ K (.v (.int k (a.fdiv (2 ^ (min b.toNat k.bits)))))
  | .add => k = k' ∧ K (.v (.int k (k.wrap (a + b))))
  | .sub => k = k' ∧ K (.v (.int k (k.wrap (a - b))))
  | .mul => k = k' ∧ K (.v (.int k (k.wrap (a * b))))
  | .quo => k = k' ∧ b ≠ 0 ∧ K (.v (.int k (k.wrap (a.tdiv b))))
  | .rem => k = k' ∧ b ≠ 0 ∧ K (.v (.int k (a.tmod b)))
  | .and => k = k' ∧ K (.v (.int k (k.wrap (BitVec.ofInt k.bits a &&& BitVec.ofInt k.bits b).toNat)))
  | .or => k = k' ∧ K (.v (.int k (k.wrap (BitVec.ofInt k.bits a ||| BitVec.ofInt k.bits b).toNat)))
  | .xor => k = k' ∧ K (.v (.int k (k.wrap (BitVec.ofInt k.bits a ^^^ BitVec.ofInt k.bits b).toNat)))
  | .eql => k = k' ∧ K (.v (.bool (a == b)))
  | .neq => k = k' ∧ K (.v (.bool (a != b)))
  | .lss => k = k' ∧ K (.v (.bool (decide (a < b))))
  | .leq => k = k' ∧ K (.v (.bool (decide (a ≤ b))))
  | .gtr => k = k' ∧ K (.v (.bool (decide (a > b))))
  | .geq => k = k' ∧ K (.v (.bool (decide (a ≥ b))))
  | _ => False
def vcStr (op : BinOp) (a b : ByteArray) (K : PV → Prop) : Prop :=
  match op with
  | .add => a.size + b.size ≤ 9223372036854775807 ∧ K (.v (.string (a ++ b)))
  | .eql => K (.v (.bool (decide (a = b))))
  | .neq => K (.v (.bool (!decide (a = b))))
  | .lss => K (.v (.bool (Op.bytesLess a.toList b.toList)))
  | _ => False
def vcEq (P : Program) (op : BinOp) (t : TypeId) (x y : PV) (K : PV → Prop) : Prop :=
  match op with
  | .eql => ∃ fx fy b, x.flat = some fx ∧ y.flat = some fy ∧ EqSpec P t fx fy b ∧ K (.v (.bool b))
  | .neq => ∃ fx fy b, x.flat = some fx ∧ y.flat = some fy ∧ EqSpec P t fx fy b ∧ K (.v (.bool (!b)))
  | _ => False
/-- Both of two kinds: integers; strings; else compared as a whole. -/
def vcBin (P : Program) (op : BinOp) (t : TypeId) (x y : PV) (K : PV → Prop) : Prop :=
  match x, y with
  | .v (.int k a), .v (.int k' b) => vcInt op k k' a b K
  | .v (.string a), .v (.string b) => vcStr op a b K
  | .v (.bool a), .v (.bool b) => P.underlying t = some .bool ∧ (match op with | .eql => K (.v (.bool (a == b))) | .neq => K (.v (.bool (a != b))) | _ => False)
  | .agg xs, .agg ys => vcEq P op t (.agg xs) (.agg ys) K
  | _, _ => False
def vcUn (op : UnOp) (x : PV) (K : PV → Prop) : Prop :=
  match op, x with
  | .not, .v (.bool b) => K (.v (.bool (!b)))
  | .neg, .v (.int k n) => K (.v (.int k (k.wrap (0 - n))))
  | _, _ => False
def vcConv (P : Program) (src dst : TypeId) (x : PV) (K : PV → Prop) : Prop :=
  match x, P.underlying dst with
  | .v (.int _ n), some (.int k) => (P.underlying src).isSome = true ∧ K (.v (.int k (k.wrap n)))
  | .v (.string s), some .string => (P.underlying src).isSome = true ∧ K (.v (.string s))
  | _, _ => False
/-- The cells of a part of a value that is built. -/
def partCells : PV → Option (List PV)
  | .agg cs => some cs
  | .v x => match x.oneCell' with | true => some [.v x] | false => none
  | .sl k es => some [.sl k es]
  | _ => none
def splice (cells cs : List PV) (off : Nat) : List PV := cells.take off ++ (cs ++ cells.drop (off + cs.length))
def fillP (place : Nat → Option (Nat × Nat)) (cells : List PV) : List (Nat × PV) → Option (List PV)
  | [] => some cells
  | (i, x) :: rest =>
    match place i, partCells x with
    | some (off, size), some cs => match Nat.beq cs.length size, Nat.ble (off + cs.length) cells.length with
      | true, true => fillP place (splice cells cs off) rest
      | _, _ => none
    | _, _ => none
def zeroP (P : Program) (t : TypeId) : Option (List PV) := ((P.info? t).bind (·.zero)).map fun z => z.cells.toList.map ofV1
def vcOpt (o : Option (List PV)) (K : List PV → Prop) : Prop :=
  match o with
  | some cs => K cs
  | none => False
def vcBuild (P : Program) (t : TypeId) (parts : List (Nat × PV)) (K : PV → Prop) : Prop :=
  match P.underlying t, zeroP P t with
  | some (.struct fs), some z => vcOpt (fillP (fun i => (fs[i]?).bind fun f => (szP P f.type).map fun n => (f.offset, n)) z parts) fun cs => (fs.all fun f => (P.info? f.type).isSome) = true ∧ K (.agg cs)
  | some (.array _ e), some z => match szP P e with
    | some n => vcOpt (fillP (fun i => some (i * n, n)) z parts) fun cs => K (.agg cs)
    | none => False
  | _, _ => False
/-- A bound of a part: a number, or what stands where none is given. -/
def natOf (x : Option PV) (dflt n : Nat) : Prop :=
  match x with
  | none => n = dflt
  | some (.v (.int _ i)) => i = (n : Int)
  | some _ => False
def vcSlice (P : Program) (t : TypeId) (x : PV) (lo hi mx : Option PV) (K : PV → Prop) : Prop :=
  match x, mx with
  | .sl _ es, none => ∃ l h r, natOf lo 0 l ∧ natOf hi es.length h ∧ l ≤ h ∧ h ≤ es.length ∧ (∃ e n, P.underlying t = some (.slice e) ∧ szP P e = some n ∧ (l = 0 ∨ ∀ i, i < es.length → (es.getD i []).length = n)) ∧ (es.drop l).take (h - l) = r ∧ K (.sl .any r)
  | .sl _ es, some m => ∃ l h r, natOf lo 0 l ∧ natOf hi es.length h ∧ natOf (some m) 0 h ∧ hi.isSome = true ∧ l ≤ h ∧ h ≤ es.length ∧ (∃ e n, P.underlying t = some (.slice e) ∧ szP P e = some n ∧ (l = 0 ∨ ∀ i, i < es.length → (es.getD i []).length = n)) ∧ (es.drop l).take (h - l) = r ∧ K (.sl .full r)
  | .v (.string s), none => ∃ l h r, natOf lo 0 l ∧ natOf hi s.size h ∧ l ≤ h ∧ h ≤ s.size ∧ P.underlying t = some .string ∧ s.extract l h = r ∧ K (.v (.string r))
  | _, _ => False
def szPos (P : Program) (t : TypeId) : Bool :=
  match szP P t with
  | some n => !Nat.beq n 0
  | none => false
theorem szPos_spec {P : Program} {t : TypeId} (h : szPos P t = true) : ∃ n, szP P t = some n ∧ ¬ n = 0 := by
  unfold szPos at h
  split at h
  · rename_i n hn
    exact ⟨n, hn, fun e => by subst e; cases h⟩
  · cases h
def vcFieldAddr (P : Program) (t : TypeId) (x : PV) (f : Nat) (K : PV → Prop) : Prop :=
  match P.underlying t with
  | some (.struct fs) => match fs[f]? with
    | some fl => szPos P fl.type = true ∧ (match x with
      | .ptr b o => K (.ptr b (o + fl.offset))
      | .ro cs => K (.ro (cs.drop fl.offset))
      | _ => False)
    | none => False
  | _ => False
def vcField (P : Program) (t : TypeId) (x : PV) (f : Nat) (K : PV → Prop) : Prop :=
  match P.underlying t, x with
  | some (.struct fs), .agg cs => match fs[f]? with
    | some fl => vcPart P fl.type cs fl.offset K
    | none => False
  | _, _ => False
def vcIndexAddr (P : Program) (t : TypeId) (x i : PV) (K : PV → Prop) : Prop :=
  match P.underlying t, x, i with
  | some (.slice e), .sl _ es, .v (.int _ i) => ∃ (j : Nat) (c : List PV), i = (j : Int) ∧ es[j]? = some c ∧ szP P e = some c.length ∧ K (.ro c)
  | some (.array n e), .ptr b o, .v (.int _ i) => ∃ j : Nat, i = (j : Int) ∧ j < n ∧ (match szP P e with | some m => K (.ptr b (o + j * m)) | none => False)
  | some (.array n e), .ro cs, .v (.int _ i) => ∃ j : Nat, i = (j : Int) ∧ j < n ∧ (match szP P e with | some m => K (.ro (cs.drop (j * m))) | none => False)
  | _, _, _ => False
def vcIndex (P : Program) (t : TypeId) (x i : PV) (K : PV → Prop) : Prop :=
  match P.underlying t, x, i with
  | some (.array n e), .agg cs, .v (.int _ i) => ∃ j : Nat, i = (j : Int) ∧ j < n ∧ (match szP P e with | some m => vcPart P e cs (j * m) K | none => False)
  | some .string, .v (.string s), .v (.int _ i) => ∃ (j : Nat) (b : UInt8), i = (j : Int) ∧ s[j]? = some b ∧ K (.v (.int .u8 b.toNat))
  | _, _, _ => False
/-- Two ways. -/
inductive bsplit (b : Bool) (yes no : Prop) : Prop
  | mk (h1 : b = true → yes) (h2 : b = false → no)
theorem bsplit_intro {b : Bool} {yes no : Prop} (h1 : b = true → yes) (h2 : b = false → no) : bsplit b yes no := ⟨h1, h2⟩
theorem bsplit_t {b : Bool} {yes no : Prop} (hb : b = true) (h : yes) : bsplit b yes no := ⟨fun _ => h, fun h' => by rw [hb] at h'; cases h'⟩
theorem bsplit_f {b : Bool} {yes no : Prop} (hb : b = false) (h : no) : bsplit b yes no := ⟨fun h' => by (rw [hb] at h'; cases h'), fun _ => h⟩
/-- One of two values; of two truth values no way is parted. -/
def pick2 (t : Bool) (x y : PV) (K : PV → Prop) : Prop :=
  match x, y with
  | .v (.bool p), .v (.bool q) => K (.v (.bool (cond t p q)))
  | x, y => bsplit t (x.force K) (y.force K)
theorem pick2_spec {t : Bool} {x y : PV} {K : PV → Prop} (h : pick2 t x y K) : K (cond t x y) := by
  unfold pick2 at h
  split at h
  · cases t <;> exact h
  · simp only [force_eq] at h
    cases t
    · exact h.2 rfl
    · exact h.1 rfl
theorem pick2_intro {t : Bool} {x y : PV} {K : PV → Prop} (h : K (cond t x y)) : pick2 t x y K := by
  unfold pick2
  split
  · cases t <;> exact h
  · simp only [force_eq]
    cases t
    · exact bsplit_f rfl h
    · exact bsplit_t rfl h
def vcPure (P : Program) (ρ : Operand → PV) (op : Op) (K : PV → Prop) : Prop :=
  match op with
  | .move x | .assign x => (ρ x).force K
  | .pick c a b => match ρ c with
    | .v (.bool t) => pick2 t (ρ a) (ρ b) K
    | _ => False
  | .nilCheck x => match ρ x with
    | .ptr b o => K (.ptr b o)
    | .ro cs => K (.ro cs)
    | _ => False
  | .binOp op t x y _ => vcBin P op t (ρ x) (ρ y) K
  | .unOp op _ x => vcUn op (ρ x) K
  | .convert src dst x => vcConv P src dst (ρ x) K
  | .build t parts => vcBuild P t (parts.toList.map fun p => (p.1, ρ p.2)) K
  | .slice t x lo hi mx => vcSlice P t (ρ x) (lo.map ρ) (hi.map ρ) (mx.map ρ) K
  | .fieldAddr t x f => vcFieldAddr P t (ρ x) f K
  | .field t x f => vcField P t (ρ x) f K
  | .indexAddr t x i => vcIndexAddr P t (ρ x) (ρ i) K
  | .index t x i => vcIndex P t (ρ x) (ρ i) K
  | .extract x i => match ρ x with
    | .tup vs => match vs[i]? with
      | some v => v.force K
      | none => False
    | _ => False
  | _ => False
theorem vcPart_ex {P : Program} {t : TypeId} {cs : List PV} {off : Nat} {K : PV → Prop} (h : vcPart P t cs off K) : ∃ p, vcPart P t cs off (· = p) ∧ K p := by
  unfold vcPart at *
  simp only [force_eq] at *
  repeat' split at h
  all_goals first
    | exact h.elim
    | exact ⟨_, ⟨h.1, rfl⟩, h.2⟩
theorem vcInt_ex {op : BinOp} {k k' : IntKind} {a b : Int} {K : PV → Prop} (h : vcInt op k k' a b K) : ∃ p, vcInt op k k' a b (· = p) ∧ K p := by
  cases op <;> simp only [vcInt] at * <;>
    first
      | exact h.elim
      | exact ⟨_, ⟨h.1, rfl⟩, h.2⟩
      | exact ⟨_, ⟨h.1, h.2.1, rfl⟩, h.2.2⟩
theorem vcStr_ex {op : BinOp} {a b : ByteArray} {K : PV → Prop} (h : vcStr op a b K) : ∃ p, vcStr op a b (· = p) ∧ K p := by
  cases op <;> simp only [vcStr] at * <;>
    first
      | exact h.elim
      | exact ⟨_, ⟨h.1, rfl⟩, h.2⟩
      | exact ⟨_, rfl, h⟩
theorem vcEq_ex {P : Program} {op : BinOp} {t : TypeId} {x y : PV} {K : PV → Prop} (h : vcEq P op t x y K) : ∃ p, vcEq P op t x y (· = p) ∧ K p := by
  cases op <;> simp only [vcEq] at * <;>
    first
      | exact h.elim
      | (obtain ⟨a, b, c, h1, h2, h3, h4⟩ := h; exact ⟨_, ⟨a, b, c, h1, h2, h3, rfl⟩, h4⟩)
theorem vcOpt_ex {o : Option (List PV)} {K : List PV → Prop} (h : vcOpt o K) : ∃ cs, o = some cs ∧ K cs := by
  cases o with
  | none => exact h.elim
  | some cs => exact ⟨cs, rfl, h⟩
theorem vcPure_ex {P : Program} {ρ : Operand → PV} {op : Op} {K : PV → Prop} (h : vcPure P ρ op K) : ∃ p, vcPure P ρ op (· = p) ∧ K p := by
  cases op <;> simp only [vcPure, force_eq] at h ⊢ <;> try exact h.elim
  case move x => exact ⟨_, rfl, h⟩
  case assign x => exact ⟨_, rfl, h⟩
  case pick c a b =>
    split at h
    · exact ⟨_, pick2_intro rfl, pick2_spec h⟩
    · exact h.elim
  case nilCheck x =>
    split at h
    · exact ⟨_, rfl, h⟩
    · exact ⟨_, rfl, h⟩
    · exact h.elim
  case binOp op t x y _ =>
    unfold vcBin at *
    split at h
    · exact vcInt_ex h
    · exact vcStr_ex h
    · obtain ⟨h1, h2⟩ := h
      cases op <;> simp only at h2 ⊢ <;> first | exact h2.elim | exact ⟨_, ⟨h1, rfl⟩, h2⟩
    · exact vcEq_ex h
    · exact h.elim
  case unOp op _ x =>
    unfold vcUn at *
    split at h <;> first | exact h.elim | exact ⟨_, rfl, h⟩
  case convert src dst x =>
    unfold vcConv at *
    split at h <;> first | exact h.elim | exact ⟨_, ⟨h.1, rfl⟩, h.2⟩
  case build t parts =>
    unfold vcBuild at *
    split at h
    · obtain ⟨cs, h1, h2⟩ := vcOpt_ex h
      exact ⟨_, by rw [h1]; exact ⟨h2.1, rfl⟩, h2.2⟩
    · split at h
      · obtain ⟨cs, h1, h2⟩ := vcOpt_ex h
        exact ⟨_, by rw [h1]; exact rfl, h2⟩
      · exact h.elim
    · exact h.elim
  case slice t x lo hi mx =>
    unfold vcSlice at *
    split at h
    · obtain ⟨l, m, r, h1, h2, h3, h4, h5, h6, h7⟩ := h
      exact ⟨_, ⟨l, m, r, h1, h2, h3, h4, h5, h6, rfl⟩, h7⟩
    · obtain ⟨l, m, r, h1, h2, h3, h4, h5, h6, h7, h8, h9⟩ := h
      exact ⟨_, ⟨l, m, r, h1, h2, h3, h4, h5, h6, h7, h8, rfl⟩, h9⟩
    · obtain ⟨l, m, r, h1, h2, h3, h4, h5, h6, h7⟩ := h
      exact ⟨_, ⟨l, m, r, h1, h2, h3, h4, h5, h6, rfl⟩, h7⟩
    · exact h.elim
  case fieldAddr t x f =>
    unfold vcFieldAddr at *
    split at h
    · split at h
      · obtain ⟨h1, h2⟩ := h
        split at h2
        · exact ⟨_, ⟨h1, rfl⟩, h2⟩
        · exact ⟨_, ⟨h1, rfl⟩, h2⟩
        · exact h2.elim
      · exact h.elim
    · exact h.elim
  case field t x f =>
    unfold vcField at *
    split at h
    · split at h
      · exact vcPart_ex h
      · exact h.elim
    · exact h.elim
  case indexAddr t x i =>
    unfold vcIndexAddr at *
    split at h
    · obtain ⟨j, c, h1, h2, h3, h4⟩ := h
      exact ⟨_, ⟨j, c, h1, h2, h3, rfl⟩, h4⟩
    · obtain ⟨j, h1, h2, h3⟩ := h
      split at h3
      · exact ⟨_, ⟨j, h1, h2, rfl⟩, h3⟩
      · exact h3.elim
    · obtain ⟨j, h1, h2, h3⟩ := h
      split at h3
      · exact ⟨_, ⟨j, h1, h2, rfl⟩, h3⟩
      · exact h3.elim
    · exact h.elim
  case index t x i =>
    unfold vcIndex at *
    split at h
    · obtain ⟨j, h1, h2, h3⟩ := h
      split at h3
      · obtain ⟨p, h4, h5⟩ := vcPart_ex h3
        exact ⟨_, ⟨j, h1, h2, h4⟩, h5⟩
      · exact h3.elim
    · obtain ⟨j, b, h1, h2, h3⟩ := h
      exact ⟨_, ⟨j, b, h1, h2, rfl⟩, h3⟩
    · exact h.elim
  case extract x i =>
    split at h
    · split at h
      · exact ⟨_, rfl, h⟩
      · exact h.elim
    · exact h.elim
theorem vcPure_congr {P : Program} {ρ ρ' : Operand → PV} {op : Op} (K : PV → Prop) (h : ∀ x ∈ op.operands, ρ x = ρ' x) : vcPure P ρ op K = vcPure P ρ' op K := by
  cases op <;> simp only [vcPure] <;> simp only [Op.operands] at h
  case build t parts =>
    have : (parts.toList.map fun p => (p.1, ρ p.2)) = parts.toList.map fun p => (p.1, ρ' p.2) := List.map_congr_left fun p hp => by rw [h p.2 (by simp; exact ⟨p.1, by simpa using hp⟩)]
    rw [this]
  case slice t x lo hi mx =>
    rw [h x (by simp)]
    have e1 : lo.map ρ = lo.map ρ' := by cases lo with | none => rfl | some y => simp [h y (by simp)]
    have e2 : hi.map ρ = hi.map ρ' := by cases hi with | none => rfl | some y => simp [h y (by simp)]
    have e3 : mx.map ρ = mx.map ρ' := by cases mx with | none => rfl | some y => simp [h y (by simp)]
    rw [e1, e2, e3]
  all_goals (try rfl)
  all_goals (repeat rw [h _ (by simp)])
end Go.Proofs.YtamllmoakgnjoaaDoor
/- The pure operations of the machine of plain values say what the model's do; no program is named here. -/
namespace Go.Proofs.YtamllmoakgnjoaaDoor
open Go.RowKit
section
variable {P : Program} {E : Env}
theorem run_isAgg {t : TypeId} {b : Bool} (h : aggP P t = some b) (w : World) : (isAgg t).run P w = .ok b w := by
  unfold aggP at h
  split at h
  · rename_i hu; injection h with h; subst h; simp [isAgg, run_underlying hu]
  · rename_i hu; injection h with h; subst h; simp [isAgg, run_underlying hu]
  · rename_i d hns hna hu
    injection h with h; subst h
    simp only [isAgg, Sem.run_bind, run_underlying hu, Result.andThen_ok]
    cases d <;> first | rfl | exact absurd rfl (hns _) | exact absurd rfl (hna _ _)
  · cases h
theorem run_sizeOf {t : TypeId} {n : Nat} (h : szP P t = some n) (w : World) : (sizeOf t).run P w = .ok n w := by
  unfold szP at h
  cases hq : P.info? t with
  | none => simp [hq] at h
  | some i => simp [hq] at h; simp [sizeOf, typeInfo, hq, h]
theorem sz_info {t : TypeId} {n : Nat} (h : szP P t = some n) : (P.info? t).map (·.size) = some n := h
/-- Cells that read as plain ones. -/
def RepC (E : Env) (cs : List PV) (vs : Array Value) : Prop := cs.length = vs.size ∧ ∀ i, i < cs.length → Rep E (cs.getD i .top) (vs.getD i undef)
theorem RepC.of_agg {cs : List PV} {x : Value} (h : Rep E (.agg cs) x) : ∃ vs, x = .agg vs ∧ RepC E cs vs := by
  cases h with
  | agg _ vs hl h => exact ⟨vs, rfl, hl, h⟩
theorem RepC.agg {cs : List PV} {vs : Array Value} (h : RepC E cs vs) : Rep E (.agg cs) (.agg vs) := .agg cs vs h.1 h.2
theorem RepC.sub {cs : List PV} {vs : Array Value} (h : RepC E cs vs) (off n : Nat) (hn : off + n ≤ cs.length) : RepC E (Proofs.YtamllmoakgnjoaaDoor.sub cs off n) (vs.extract off (off + n)) := by
  have hl := h.1
  refine ⟨by rw [sub_len hn, Array.size_extract]; omega, fun i hi => ?_⟩
  rw [sub_len hn] at hi
  rw [sub_get hn hi]
  have := h.2 (off + i) (by omega)
  have e : (vs.extract off (off + n)).getD i undef = vs.getD (off + i) undef := by
    have h1 : i < (vs.extract off (off + n)).size := by rw [Array.size_extract]; omega
    have h2 : off + i < vs.size := by omega
    simp only [Array.getD, h1, h2, dite_true]
    simp
  rw [e]; exact this
theorem part_sound {t : TypeId} {cs : List PV} {vs : Array Value} {off : Nat} {p : PV} (hr : RepC E cs vs) (h : vcPart P t cs off (· = p)) :
    ∃ x, (part t vs off).run P E.w = .ok x E.w ∧ Rep E p x := by
  unfold vcPart at h
  simp only [force_eq] at h
  split at h
  · rename_i n h1 h2
    obtain ⟨h3, rfl⟩ := h
    exact ⟨_, by simp [part, run_isAgg h1, run_sizeOf h2], (hr.sub off n h3).agg⟩
  · rename_i n h1 h2
    obtain ⟨h3, rfl⟩ := h
    have h4 : off < vs.size := by rw [← hr.1]; exact h3
    have := hr.2 off h3
    simp only [Array.getD, h4, dite_true] at this
    exact ⟨_, by simp [part, run_isAgg h1, h4], this⟩
  · exact h.elim
theorem run_equal_bool {t : TypeId} (h : P.underlying t = some .bool) (a b : Bool) (w : World) : (Op.equal t (.bool a) (.bool b)).run P w = .ok (a == b) w := by
  unfold Op.equal Op.maxDepth
  unfold Op.equalIn
  simp [run_underlying h]
theorem toList_beq (a b : ByteArray) : (a.toList == b.toList) = decide (a = b) := by
  by_cases h : a = b
  · subst h; simp
  · have : a.toList ≠ b.toList := fun e => h (by
      rw [ByteArray.toList_eq, ByteArray.toList_eq] at e
      exact ByteArray.ext (Array.ext' e))
    simp [h, this]
theorem bin_sound {o : Oper} {σ : Operand → Value} {op : BinOp} {t t' : TypeId} {x y : Operand} {a b p : PV} (ho : o.op = .binOp op t x y t') (ra : Rep E a (σ x)) (rb : Rep E b (σ y)) (h : vcBin P op t a b (· = p)) :
    ∃ z, (execOp σ o).run P E.w = .ok (.value z) E.w ∧ Rep E p z := by
  unfold vcBin at h
  split at h
  · rename_i k a k' b
    have ea := ra.v_eq
    have eb := rb.v_eq
    unfold vcInt at h
    cases op <;> simp only at h <;> try exact h.elim
    case shl =>
      obtain ⟨h1, rfl⟩ := h
      exact ⟨_, by simp [execOp, ho, ea, eb, go_sem, Op.shift, show ¬ b < 0 by omega], .v _⟩
    case shr =>
      obtain ⟨h1, rfl⟩ := h
      exact ⟨_, by simp [execOp, ho, ea, eb, go_sem, Op.shift, show ¬ b < 0 by omega], .v _⟩
    case quo =>
      obtain ⟨rfl, h1, rfl⟩ := h
      exact ⟨_, by simp [execOp, ho, ea, eb, go_sem, h1], .v _⟩
    case rem =>
      obtain ⟨rfl, h1, rfl⟩ := h
      exact ⟨_, by simp [execOp, ho, ea, eb, go_sem, h1], .v _⟩
    all_goals (obtain ⟨rfl, rfl⟩ := h; exact ⟨_, by simp [execOp, ho, ea, eb, go_sem, Op.intBits], .v _⟩)
  · rename_i a b
    have ea := ra.v_eq
    have eb := rb.v_eq
    unfold vcStr at h
    cases op <;> simp only at h <;> try exact h.elim
    case add =>
      obtain ⟨h1, rfl⟩ := h
      exact ⟨_, by simp [execOp, ho, ea, eb, go_sem, binOp, Op.stringOp, show ¬ ((9223372036854775807 : Int) < (a.size : Int) + (b.size : Int)) by omega], .v _⟩
    all_goals (subst h; exact ⟨_, by simp [execOp, ho, ea, eb, go_sem, binOp, Op.stringOp, toList_beq], .v _⟩)
  · rename_i a b
    have ea := ra.v_eq
    have eb := rb.v_eq
    obtain ⟨hu, h⟩ := h
    cases op <;> simp only at h <;> try exact h.elim
    case eql => subst h; exact ⟨_, by simp [execOp, ho, ea, eb, go_sem, binOp, run_equal_bool hu], .v _⟩
    case neq => subst h; exact ⟨_, by simp [execOp, ho, ea, eb, go_sem, binOp, run_equal_bool hu]; cases a <;> cases b <;> rfl, .v _⟩
  · unfold vcEq at h
    cases op <;> simp only at h <;> try exact h.elim
    case eql =>
      obtain ⟨fx, fy, r, h1, h2, h3, rfl⟩ := h
      obtain ⟨vs, e1, -⟩ := RepC.of_agg ra
      obtain ⟨us, e2, -⟩ := RepC.of_agg rb
      have hx := ra.flat h1
      have hy := rb.flat h2
      obtain ⟨q1, q2, q3⟩ := h3 x y E.w
      rw [← hx, ← hy] at q1 q2 q3
      rw [e1, e2] at q1 q3
      exact ⟨_, by simp [execOp, ho, e1, e2, q1, q3, binOp], .v _⟩
    case neq =>
      obtain ⟨fx, fy, r, h1, h2, h3, rfl⟩ := h
      obtain ⟨vs, e1, -⟩ := RepC.of_agg ra
      obtain ⟨us, e2, -⟩ := RepC.of_agg rb
      have hx := ra.flat h1
      have hy := rb.flat h2
      obtain ⟨q1, q2, q3⟩ := h3 x y E.w
      rw [← hx, ← hy] at q1 q2 q3
      rw [e1, e2] at q2 q3
      exact ⟨_, by simp [execOp, ho, e1, e2, q2, q3, binOp], .v _⟩
  · exact h.elim
theorem Rep.partCells {q : PV} {x : Value} {cs : List PV} (r : Rep E q x) (h : partCells q = some cs) : RepC E cs x.cells := by
  cases q with
  | v y =>
    simp only [Proofs.YtamllmoakgnjoaaDoor.partCells] at h
    have := r.v_eq
    subst this
    split at h
    · injection h with h
      subst h
      rename_i ho
      have e : x.cells = #[x] := by cases x <;> first | rfl | simp [Value.oneCell'] at ho
      rw [e]
      refine ⟨rfl, fun i hi => ?_⟩
      have : i = 0 := by simpa using hi
      subst this
      exact .v _
    · cases h
  | agg ds =>
    simp only [Proofs.YtamllmoakgnjoaaDoor.partCells, Option.some.injEq] at h
    subst h
    obtain ⟨vs, rfl, h⟩ := RepC.of_agg r
    exact h
  | sl k es =>
    simp only [Proofs.YtamllmoakgnjoaaDoor.partCells, Option.some.injEq] at h
    subst h
    have e : x.cells = #[x] := by cases r; rfl
    rw [e]
    refine ⟨rfl, fun i hi => ?_⟩
    have : i = 0 := by simpa using hi
    subst this
    exact r
  | _ => simp [Proofs.YtamllmoakgnjoaaDoor.partCells] at h
theorem foldl_size (off : Nat) : ∀ (l : List (Value × Nat)) (old : Array Value), (l.foldl (fun a (c, j) => a.setIfInBounds (off + j) c) old).size = old.size
  | [], _ => rfl
  | x :: l, old => by rw [List.foldl_cons, foldl_size off l]; simp
theorem foldl_splice (cs : List Value) (old : Array Value) (off : Nat) : ∀ k, k ≤ cs.length → off + cs.length ≤ old.size →
    ∀ i, ((cs.take k).zipIdx.foldl (fun a (c, j) => a.setIfInBounds (off + j) c) old).getD i undef = if off ≤ i ∧ i < off + k then cs.getD (i - off) undef else old.getD i undef := by
  intro k
  induction k with
  | zero =>
    intro _ _ i
    rw [if_neg (by omega)]; rfl
  | succ k ih =>
    intro hk ho i
    have ih := ih (by omega) ho i
    have hsz := foldl_size off (cs.take k).zipIdx old
    rw [List.take_succ_eq_append_getElem (by omega), List.zipIdx_append, List.foldl_append]
    simp only [List.length_take, Nat.zero_add, List.zipIdx_cons, List.zipIdx_nil, List.foldl_cons, List.foldl_nil]
    have hmin : min k cs.length = k := by omega
    rw [hmin]
    generalize ((cs.take k).zipIdx.foldl (fun a (c, j) => a.setIfInBounds (off + j) c) old) = z at *
    by_cases he : i = off + k
    · subst he
      rw [if_pos (by omega)]
      have h1 : off + k < z.size := by omega
      have h2 : k < cs.length := by omega
      rw [show off + k - off = k by omega]
      simp [Array.getD, List.getD, h1, h2]
    · have e1 : (z.setIfInBounds (off + k) cs[k]).getD i undef = z.getD i undef := by
        simp only [Array.getD_eq_getD_getElem?]
        rw [Array.getElem?_setIfInBounds_ne (fun e => he e.symm)]
      rw [e1, ih]
      by_cases h2 : off ≤ i ∧ i < off + k
      · rw [if_pos h2, if_pos (by omega)]
      · rw [if_neg h2, if_neg (by omega)]
theorem splice_get (cells cs : List PV) (off : Nat) (h : off + cs.length ≤ cells.length) (i : Nat) : (splice cells cs off).getD i .top = if off ≤ i ∧ i < off + cs.length then cs.getD (i - off) .top else cells.getD i .top := by
  unfold splice
  have hl : (cells.take off).length = off := by rw [List.length_take]; omega
  simp only [List.getD]
  by_cases h1 : i < off
  · rw [if_neg (by omega), List.getElem?_append_left (by omega), List.getElem?_take_of_lt h1]
  · rw [List.getElem?_append_right (by omega), hl]
    by_cases h2 : i < off + cs.length
    · rw [if_pos (by omega), List.getElem?_append_left (by omega)]
    · rw [if_neg (by omega), List.getElem?_append_right (by omega), List.getElem?_drop]
      rw [show off + cs.length + (i - off - cs.length) = i by omega]
theorem splice_len (cells cs : List PV) (off : Nat) (h : off + cs.length ≤ cells.length) : (splice cells cs off).length = cells.length := by
  unfold splice
  simp only [List.length_append, List.length_take, List.length_drop]; omega
theorem fill_sound (plP plV : Nat → Option (Nat × Nat)) (hpl : plP = plV) : ∀ (parts : List (Nat × PV)) (vals : List (Nat × Value)) (cells cs : List PV) (old : Array Value), RepC E cells old →
    parts.length = vals.length → (∀ j, j < parts.length → (parts.getD j (0, .top)).1 = (vals.getD j (0, undef)).1 ∧ Rep E (parts.getD j (0, .top)).2 (vals.getD j (0, undef)).2) →
    fillP plP cells parts = some cs → ∃ vs, Instr.fill plV old vals = some vs ∧ RepC E cs vs
  | [], [], cells, cs, old, hr, _, _, h => by
    simp only [fillP, Option.some.injEq] at h
    subst h
    exact ⟨old, rfl, hr⟩
  | (i, x) :: parts, [], _, _, _, _, hl, _, _ => by simp at hl
  | [], _ :: _, _, _, _, _, hl, _, _ => by simp at hl
  | (i, x) :: parts, (j, y) :: vals, cells, cs, old, hr, hl, hp, h => by
    have h0 := hp 0 (by simp)
    simp only [List.getD, List.getElem?_cons_zero, Option.getD_some] at h0
    obtain ⟨rfl, h0⟩ := h0
    subst hpl
    unfold fillP at h
    split at h
    · rename_i off size ds hpl hpc
      split at h
      · rename_i e1 e2
        have e1 := Nat.eq_of_beq_eq_true e1
        have e2 := Nat.le_of_ble_eq_true e2
        have hd := h0.partCells hpc
        have hys : y.cells.size = ds.length := hd.1.symm
        have hr2 : RepC E (splice cells ds off) (y.cells.zipIdx.foldl (fun a (c, j) => a.setIfInBounds (off + j) c) old) := by
          have ef : y.cells.zipIdx.foldl (fun a (c, j) => a.setIfInBounds (off + j) c) old = (y.cells.toList.take y.cells.toList.length).zipIdx.foldl (fun a (c, j) => a.setIfInBounds (off + j) c) old := by
            rw [List.take_length, ← Array.foldl_toList, Array.toList_zipIdx]
          have hsz : (y.cells.zipIdx.foldl (fun a (c, j) => a.setIfInBounds (off + j) c) old).size = old.size := by
            rw [ef]
            exact foldl_size off _ old
          refine ⟨by rw [splice_len _ _ _ e2, hsz]; exact hr.1, fun k hk => ?_⟩
          rw [splice_len _ _ _ e2] at hk
          rw [splice_get _ _ _ e2, ef, foldl_splice y.cells.toList old off y.cells.toList.length (Nat.le_refl _) (by rw [← hr.1]; simpa [hys] using e2)]
          by_cases hin : off ≤ k ∧ k < off + ds.length
          · rw [if_pos hin, if_pos (by simpa [hys] using hin)]
            have := hd.2 (k - off) (by omega)
            have h3 : k - off < y.cells.size := by omega
            simp only [Array.getD, h3, dite_true] at this
            simpa [List.getD, h3] using this
          · rw [if_neg hin, if_neg (by simpa [hys] using hin)]
            exact hr.2 k hk
        obtain ⟨vs, hv, hrr⟩ := fill_sound plP plP rfl parts vals _ cs _ hr2 (by simpa using hl) (fun j hj => by
          have := hp (j + 1) (by simpa using hj)
          simpa [List.getD] using this) h
        refine ⟨vs, ?_, hrr⟩
        unfold Instr.fill
        simp only [hpl]
        rw [if_neg (by simp only [Bool.or_eq_true, decide_eq_true_eq, not_or]; rw [hys, ← hr.1]; omega)]
        exact hv
      · cases h
    · cases h
theorem zero_sound {t : TypeId} {z : List PV} (h : zeroP P t = some z) : ∃ v, (∀ w, (zeroValue t).run P w = .ok v w) ∧ RepC E z v.cells := by
  unfold zeroP at h
  cases hq : P.info? t with
  | none => simp [hq] at h
  | some i =>
    cases hz : i.zero with
    | none => simp [hq, hz] at h
    | some v =>
      simp [hq, hz] at h
      refine ⟨v, fun w => by simp [zeroValue, typeInfo, hq, hz], ?_⟩
      subst h
      refine ⟨by simp, fun k hk => ?_⟩
      have h1 : k < v.cells.size := by simpa using hk
      have := @Rep.ofV1 E v.cells[k]
      simpa [List.getD, h1] using this
end
end Go.Proofs.YtamllmoakgnjoaaDoor
/- The pure operations of the machine of plain values say what the model's do: the rest, and all together; no program is named here. -/
namespace Go.Proofs.YtamllmoakgnjoaaDoor
open Go.RowKit
section
variable {P : Program} {E : Env}
theorem run_mapM_list {α β : Type} (w : World) (G : α → Sem β) (r : α → β) : ∀ l : List α, (∀ x ∈ l, (G x).run P w = .ok (r x) w) → (l.mapM G).run P w = .ok (l.map r) w
  | [], _ => rfl
  | x :: l, h => by
    rw [List.mapM_cons]
    simp only [Sem.run_bind, h x (by simp), Result.andThen_ok, run_mapM_list w G r l (fun y hy => h y (by simp [hy])), Sem.run_pure, List.map_cons]
theorem build_sound {t : TypeId} {parts : List (Nat × PV)} {vals : Array (Nat × Value)} {p : PV} (hl : parts.length = vals.toList.length)
    (hp : ∀ j, j < parts.length → (parts.getD j (0, .top)).1 = (vals.toList.getD j (0, undef)).1 ∧ Rep E (parts.getD j (0, .top)).2 (vals.toList.getD j (0, undef)).2)
    (h : vcBuild P t parts (· = p)) : ∃ z, (Instr.build t vals).run P E.w = .ok z E.w ∧ Rep E p z := by
  unfold vcBuild at h
  split at h
  · rename_i fs z hu hz
    obtain ⟨cs, h1, h2, rfl⟩ := vcOpt_ex h
    obtain ⟨v, hv, hr⟩ := zero_sound (E := E) hz
    have hm : (fs.mapM fun f : Field => (do pure (f.offset, ← sizeOf f.type) : Sem (Nat × Nat))).run P E.w = .ok (fs.map fun f => (f.offset, ((P.info? f.type).map (·.size)).getD 0)) E.w := by
      rw [Array.mapM_eq_mapM_toList]
      have := run_mapM_list (P := P) E.w (fun f : Field => (do pure (f.offset, ← sizeOf f.type) : Sem (Nat × Nat))) (fun f => (f.offset, ((P.info? f.type).map (·.size)).getD 0)) fs.toList (fun f hf => by
        obtain ⟨i, hi⟩ := Option.isSome_iff_exists.1 ((Array.all_eq_true_iff_forall_mem.1 h2) f (by simpa using hf))
        simp [sizeOf, typeInfo, hi])
      rw [Sem.run_map, this]
      simp only [Result.andThen_ok]
      congr 1
      apply Array.ext'
      simp
    have hpl : (fun i : Nat => (fs[i]?).bind fun f : Field => (szP P f.type).map fun n => (f.offset, n)) = fun i => (fs.map fun f : Field => (f.offset, ((P.info? f.type).map (·.size)).getD 0))[i]? := by
      funext i
      simp only [Array.getElem?_map]
      cases hf : fs[i]? with
      | none => rfl
      | some f =>
        have hmem := Array.mem_of_getElem? hf
        obtain ⟨j, hj⟩ := Option.isSome_iff_exists.1 ((Array.all_eq_true_iff_forall_mem.1 h2) f hmem)
        simp [szP, hj]
    obtain ⟨vs, hf, hrr⟩ := fill_sound _ _ hpl parts vals.toList z cs v.cells hr hl hp h1
    refine ⟨_, ?_, hrr.agg⟩
    unfold Instr.build
    simp only [Sem.run_bind, hv, Result.andThen_ok, run_underlying hu, hm]
    rw [hf]
    rfl
  · rename_i n e z hu hz
    split at h
    · rename_i m hm
      obtain ⟨cs, h1, rfl⟩ := vcOpt_ex h
      obtain ⟨v, hv, hr⟩ := zero_sound (E := E) hz
      obtain ⟨vs, hf, hrr⟩ := fill_sound _ _ rfl parts vals.toList z cs v.cells hr hl hp h1
      refine ⟨_, ?_, hrr.agg⟩
      unfold Instr.build
      simp only [Sem.run_bind, hv, Result.andThen_ok, run_underlying hu, run_sizeOf hm]
      rw [hf]
      rfl
    · exact h.elim
  · exact h.elim
theorem bound_some {x : PV} {y : Value} {d n : Nat} (r : Rep E x y) (h : natOf (some x) d n) : ∃ k, y = .int k (n : Int) := by
  cases x with
  | v z =>
    have := r.v_eq
    subst this
    cases y with
    | int k i =>
      have h : i = (n : Int) := h
      subst h
      exact ⟨_, rfl⟩
    | _ => exact False.elim h
  | _ => exact False.elim h
theorem run_bound {k : IntKind} {n y : Nat} (h : n ≤ y) (code : BoundsCode) (w : World) : (Instr.sliceBound (.int k (n : Int)) y code).run P w = .ok n w := by
  simp [Instr.sliceBound, asIntOf, h]
theorem bounds_run {b : Bool} {len cap l h : Nat} {lo hi : Option PV} {σlo σhi : Option Value} (rlo : ∀ x, lo = some x → ∃ y, σlo = some y ∧ Rep E x y) (nlo : lo = none → σlo = none) (rhi : ∀ x, hi = some x → ∃ y, σhi = some y ∧ Rep E x y) (nhi : hi = none → σhi = none)
    (h1 : natOf lo 0 l) (h2 : natOf hi len h) (h3 : l ≤ h) (h4 : h ≤ cap) : (Instr.sliceBounds b len cap σlo σhi none).run P E.w = .ok (l, h, cap) E.w := by
  unfold Instr.sliceBounds
  cases hi with
  | none =>
    rw [nhi rfl]
    have : h = len := h2
    subst this
    cases lo with
    | none =>
      rw [nlo rfl]
      have : l = 0 := h1
      subst this
      rfl
    | some x =>
      obtain ⟨y, e, r⟩ := rlo x rfl
      obtain ⟨k, rfl⟩ := bound_some r h1
      rw [e]
      simp [run_bound h3]
  | some z =>
    obtain ⟨y, e, r⟩ := rhi z rfl
    obtain ⟨k, rfl⟩ := bound_some r h2
    rw [e]
    cases lo with
    | none =>
      rw [nlo rfl]
      have : l = 0 := h1
      subst this
      simp [run_bound h4]
    | some x =>
      obtain ⟨y, e, r⟩ := rlo x rfl
      obtain ⟨k, rfl⟩ := bound_some r h1
      rw [e]
      simp [run_bound h3, run_bound h4]
theorem bounds_run_m {len cap l h : Nat} {lo : Option PV} {hi m : PV} {σlo : Option Value} {yh ym : Value} (rlo : ∀ x, lo = some x → ∃ y, σlo = some y ∧ Rep E x y) (nlo : lo = none → σlo = none) (rhi : Rep E hi yh) (rm : Rep E m ym)
    (h1 : natOf lo 0 l) (h2 : natOf (some hi) len h) (h5 : natOf (some m) 0 h) (h3 : l ≤ h) (h4 : h ≤ cap) : (Instr.sliceBounds true len cap σlo (some yh) (some ym)).run P E.w = .ok (l, h, h) E.w := by
  unfold Instr.sliceBounds
  obtain ⟨k, rfl⟩ := bound_some rhi h2
  obtain ⟨k', rfl⟩ := bound_some rm h5
  cases lo with
  | none =>
    rw [nlo rfl]
    have : l = 0 := h1
    subst this
    simp [run_bound h4, run_bound (Nat.le_refl h)]
  | some x =>
    obtain ⟨y, e, r⟩ := rlo x rfl
    obtain ⟨k, rfl⟩ := bound_some r h1
    rw [e]
    simp [run_bound h3, run_bound h4, run_bound (Nat.le_refl h)]
theorem Rep.part {k : K} {es : List (List PV)} {A : Option Addr} {len c n l h m : Nat} (r : Rep E (.sl k es) (.slice A len c)) (h1 : l ≤ h) (h2 : h ≤ es.length) (hm : h ≤ m) (hmc : m ≤ c) (hw : l = 0 ∨ ∀ i, i < es.length → (es.getD i []).length = n) (k' : K) (hk : k' = .any ∨ (k' = .full ∧ m = h)) :
    Rep E (.sl k' ((es.drop l).take (h - l))) (.slice (if m = l then A else A.map (·.add (l * n))) (h - l) (m - l)) := by
  cases r with
  | sl _ _ _ _ g o sz val g1 g2 g3 g4 g5 g6 hc hr =>
    have hlen : ((es.drop l).take (h - l)).length = h - l := by simp only [List.length_take, List.length_drop]; omega
    have hget : ∀ i, i < h - l → ((es.drop l).take (h - l)).getD i [] = es.getD (l + i) [] := fun i hi => by
      simp only [List.getD, List.getElem?_take_of_lt hi, List.getElem?_drop]
    have hsz : l = 0 ∨ h = l ∨ n = sz := by
      rcases hw with h0 | hw
      · exact .inl h0
      · by_cases hlt : l < h
        · exact .inr (.inr ((hw l (by omega)).symm.trans (g5 l (by omega))))
        · exact .inr (.inl (by omega))
    have hh : h - l = ((es.drop l).take (h - l)).length := hlen.symm
    have key := Rep.sl (E := E) k' ((es.drop l).take (h - l)) (if m = l then A else A.map (·.add (l * n))) (m - l) g (o + l * sz) sz (fun i j => val (l + i) j) (by rw [hlen]; omega) (by omega)
      (fun e => by
        rcases hk with hk | ⟨_, hk⟩
        · rw [hk] at e; cases e
        · rw [hlen]; omega) (fun t e => by rcases hk with hk | ⟨hk, _⟩ <;> (rw [hk] at e; cases e))
      (fun i hi => by rw [hlen] at hi; rw [hget i hi]; exact g5 _ (by omega))
      (fun hne => by
        have hpos : 0 < h - l := by rw [← hlen]; exact List.length_pos_iff.2 hne
        have hA := g6 (fun e => by rw [e] at h2; simp at h2; omega)
        rw [if_neg (by omega), hA]
        simp only [Option.map_some]
        rw [Addr.add_lit]
        rcases hsz with h0 | h0 | h0
        · subst h0; simp
        · omega
        · rw [h0])
      (fun i j hi hj => by
        rw [hlen] at hi
        have := hc (l + i) j (by omega) hj
        rwa [show o + (l + i) * sz + j = o + l * sz + i * sz + j by rw [Nat.add_mul]; omega] at this)
      (fun i j hi hj => by
        rw [hlen] at hi
        rw [hget i hi]
        exact hr (l + i) j (by omega) hj)
    rw [hlen] at key
    exact key
theorem slice_sound {t : TypeId} {x : PV} {y : Value} {lo hi mx : Option PV} {σlo σhi σmx : Option Value} {p : PV} (rx : Rep E x y)
    (rlo : ∀ x, lo = some x → ∃ y, σlo = some y ∧ Rep E x y) (nlo : lo = none → σlo = none) (rhi : ∀ x, hi = some x → ∃ y, σhi = some y ∧ Rep E x y) (nhi : hi = none → σhi = none) (rmx : ∀ x, mx = some x → ∃ y, σmx = some y ∧ Rep E x y) (nmx : mx = none → σmx = none)
    (h : vcSlice P t x lo hi mx (· = p)) : ∃ z, (Instr.sliceAt t y σlo σhi σmx).run P E.w = .ok z E.w ∧ Rep E p z := by
  unfold vcSlice at h
  split at h
  · rename_i k es
    obtain ⟨l, hh, rr, h1, h2, h3, h4, ⟨e, n, hu, hn, hw⟩, rfl, rfl⟩ := h
    have rx0 := rx
    cases rx with
    | sl _ _ A c g o sz val g1 g2 g3 g4 g5 g6 hc hr =>
      have hb := bounds_run (P := P) (E := E) (b := true) (cap := c) rlo nlo rhi nhi h1 h2 h3 (by omega)
      refine ⟨_, ?_, rx0.part h3 h4 (show hh ≤ c by omega) (Nat.le_refl _) hw .any (.inl rfl)⟩
      rw [nmx rfl]
      simp [Instr.sliceAt, Instr.slice, run_underlying hu, hb, run_sizeOf hn]
  · rename_i k es m
    obtain ⟨l, hh, rr, h1, h2, h5, hs, h3, h4, ⟨e, n, hu, hn, hw⟩, rfl, rfl⟩ := h
    obtain ⟨hi', rfl⟩ := Option.isSome_iff_exists.1 hs
    obtain ⟨yh, eh, rh⟩ := rhi _ rfl
    obtain ⟨ym, em, rm⟩ := rmx _ rfl
    have rx0 := rx
    cases rx with
    | sl _ _ A c g o sz val g1 g2 g3 g4 g5 g6 hc hr =>
      have hb := bounds_run_m (P := P) (E := E) (cap := c) rlo nlo rh rm h1 h2 h5 h3 (by omega)
      refine ⟨_, ?_, rx0.part h3 h4 (Nat.le_refl hh) (show hh ≤ c by omega) hw .full (.inr ⟨rfl, rfl⟩)⟩
      rw [eh, em]
      simp [Instr.sliceAt, Instr.slice, run_underlying hu, hb, run_sizeOf hn]
  · rename_i s
    obtain ⟨l, hh, rr, h1, h2, h3, h4, hu, rfl, rfl⟩ := h
    have := rx.v_eq
    subst this
    have hb := bounds_run (P := P) (E := E) (b := false) (cap := s.size) rlo nlo rhi nhi h1 h2 h3 h4
    refine ⟨_, ?_, .v _⟩
    rw [nmx rfl]
    simp [Instr.sliceAt, Instr.slice, run_underlying hu, hb]
  · exact h.elim
theorem Rep.ro_drop {cs : List PV} {x : Value} (r : Rep E (.ro cs) x) (n : Nat) : ∃ g o, x = .pointer (some ⟨g, o, none⟩) ∧ Rep E (.ro (cs.drop n)) (.pointer (some ⟨g, o + n, none⟩)) := by
  cases r with
  | ro _ g o val hc hr =>
    refine ⟨g, o, rfl, .ro _ g (o + n) (fun i => val (n + i)) (fun i hi => ?_) fun i hi => ?_⟩
    · have := hc (n + i) (by simp only [List.length_drop] at hi; omega)
      rwa [← Nat.add_assoc] at this
    · have := hr (n + i) (by simp only [List.length_drop] at hi; omega)
      simpa [List.getD, List.getElem?_drop] using this
theorem Rep.ptr_off {b o : Nat} {x : Value} (r : Rep E (.ptr b o) x) (n : Nat) : ∃ g, x = .pointer (some ⟨g, o, none⟩) ∧ Rep E (.ptr b (o + n)) (.pointer (some ⟨g, o + n, none⟩)) := by
  cases r with
  | ptr _ _ g h => exact ⟨g, rfl, .ptr _ _ g h⟩
theorem Rep.elem {k : K} {es : List (List PV)} {x : Value} {j : Nat} {c : List PV} (r : Rep E (.sl k es) x) (hj : es[j]? = some c) :
    ∃ g o cap, x = .slice (some ⟨g, o, none⟩) es.length cap ∧ Rep E (.ro c) (.pointer (some ⟨g, o + j * c.length, none⟩)) := by
  have hlt : j < es.length := (List.getElem?_eq_some_iff.1 hj).1
  have hg : es.getD j [] = c := by simp [List.getD, hj]
  cases r with
  | sl _ _ A cap g o sz val g1 g2 g3 g4 g5 g6 hc hr =>
    have hA := g6 (fun e => by rw [e] at hlt; simp at hlt)
    subst hA
    have hs := g5 j hlt
    rw [hg] at hs
    subst hs
    refine ⟨g, o, cap, rfl, .ro c g _ (fun i => val j i) (fun i hi => hc j i hlt hi) fun i hi => ?_⟩
    have := hr j i hlt hi
    rwa [hg] at this
theorem un_sound {op : UnOp} {x p : PV} {y : Value} (r : Rep E x y) (h : vcUn op x (· = p)) : ∃ z, (Op.unary op y).run P E.w = .ok z E.w ∧ Rep E p z := by
  unfold vcUn at h
  split at h
  · have := r.v_eq; subst this; subst h; exact ⟨_, rfl, .v _⟩
  · have := r.v_eq; subst this; subst h; exact ⟨_, rfl, .v _⟩
  · exact h.elim
theorem conv_sound {src dst : TypeId} {x p : PV} {y : Value} (r : Rep E x y) (h : vcConv P src dst x (· = p)) : ∃ z, (convert src dst y).run P E.w = .ok z E.w ∧ Rep E p z := by
  unfold vcConv at h
  split at h
  · rename_i k n k' hu
    have := r.v_eq
    subst this
    obtain ⟨hs, rfl⟩ := h
    obtain ⟨d, hd⟩ := Option.isSome_iff_exists.1 hs
    exact ⟨_, by simp [convert, run_underlying hd, run_underlying hu, Conv.intToInt], .v _⟩
  · rename_i s hu
    have := r.v_eq
    subst this
    obtain ⟨hs, rfl⟩ := h
    obtain ⟨d, hd⟩ := Option.isSome_iff_exists.1 hs
    exact ⟨_, by simp [convert, run_underlying hd, run_underlying hu], .v _⟩
  · exact h.elim
theorem fieldAddr_sound {t : TypeId} {x p : PV} {f : Nat} {y : Value} (r : Rep E x y) (h : vcFieldAddr P t x f (· = p)) : ∃ z, (Instr.fieldAt t y f).run P E.w = .ok z E.w ∧ Rep E p z := by
  unfold vcFieldAddr at h
  split at h
  · rename_i fs hu
    split at h
    · rename_i fl hf
      obtain ⟨hz, h⟩ := h
      obtain ⟨n, hn, hn0⟩ := szPos_spec hz
      split at h
      · obtain ⟨g, rfl, hr⟩ := r.ptr_off fl.offset
        subst h
        exact ⟨_, by simp [Instr.fieldAt, run_underlying hu, hf, Instr.sureAddr, fieldPlace, run_sizeOf hn, hn0, Addr.add_lit], hr⟩
      · obtain ⟨g, o, rfl, hr⟩ := r.ro_drop fl.offset
        subst h
        exact ⟨_, by simp [Instr.fieldAt, run_underlying hu, hf, Instr.sureAddr, fieldPlace, run_sizeOf hn, hn0, Addr.add_lit], hr⟩
      · exact h.elim
    · exact h.elim
  · exact h.elim
theorem field_sound {t : TypeId} {x p : PV} {f : Nat} {y : Value} (r : Rep E x y) (h : vcField P t x f (· = p)) : ∃ z, (Instr.field t y f).run P E.w = .ok z E.w ∧ Rep E p z := by
  unfold vcField at h
  split at h
  · rename_i fs cs hu
    split at h
    · rename_i fl hf
      obtain ⟨vs, rfl, hr⟩ := RepC.of_agg r
      obtain ⟨z, h1, h2⟩ := part_sound hr h
      exact ⟨z, by simp [Instr.field, run_underlying hu, hf, asAgg, h1], h2⟩
    · exact h.elim
  · exact h.elim
theorem indexAddr_sound {t : TypeId} {x i p : PV} {y k : Value} (r : Rep E x y) (ri : Rep E i k) (h : vcIndexAddr P t x i (· = p)) : ∃ z, (Instr.indexAt t y k).run P E.w = .ok z E.w ∧ Rep E p z := by
  unfold vcIndexAddr at h
  split at h
  · rename_i e kk es kd n hu
    have := ri.v_eq
    subst this
    obtain ⟨j, c, rfl, h1, h2, rfl⟩ := h
    have hlt : j < es.length := (List.getElem?_eq_some_iff.1 h1).1
    obtain ⟨g, o, cap, rfl, hr⟩ := r.elem h1
    exact ⟨_, by simp [Instr.indexAt, asIntOf, run_underlying hu, hlt, run_sizeOf h2, Addr.add_lit], hr⟩
  · rename_i n e b o kd i hu
    have := ri.v_eq
    subst this
    obtain ⟨j, rfl, h1, h2⟩ := h
    split at h2
    · rename_i m hm
      subst h2
      obtain ⟨g, rfl, hr⟩ := r.ptr_off (j * m)
      exact ⟨_, by simp [Instr.indexAt, asIntOf, run_underlying hu, Instr.sureAddr, h1, run_sizeOf hm, Addr.add_lit], hr⟩
    · exact h2.elim
  · rename_i n e cs kd i hu
    have := ri.v_eq
    subst this
    obtain ⟨j, rfl, h1, h2⟩ := h
    split at h2
    · rename_i m hm
      subst h2
      obtain ⟨g, o, rfl, hr⟩ := r.ro_drop (j * m)
      exact ⟨_, by simp [Instr.indexAt, asIntOf, run_underlying hu, Instr.sureAddr, h1, run_sizeOf hm, Addr.add_lit], hr⟩
    · exact h2.elim
  · exact h.elim
theorem index_sound {t : TypeId} {x i p : PV} {y k : Value} (r : Rep E x y) (ri : Rep E i k) (h : vcIndex P t x i (· = p)) : ∃ z, (Instr.index t y k).run P E.w = .ok z E.w ∧ Rep E p z := by
  unfold vcIndex at h
  split at h
  · rename_i n e cs kd i hu
    have := ri.v_eq
    subst this
    obtain ⟨j, rfl, h1, h2⟩ := h
    split at h2
    · rename_i m hm
      obtain ⟨vs, rfl, hr⟩ := RepC.of_agg r
      obtain ⟨z, h3, h4⟩ := part_sound hr h2
      exact ⟨z, by simp [Instr.index, asIntOf, run_underlying hu, h1, run_sizeOf hm, h3], h4⟩
    · exact h2.elim
  · rename_i s kd i hu
    have e1 := ri.v_eq
    have e2 := r.v_eq
    subst e1 e2
    obtain ⟨j, b, rfl, h1, rfl⟩ := h
    exact ⟨_, by simp [Instr.index, asIntOf, run_underlying hu, h1], .v _⟩
  · exact h.elim
theorem pure_sound {o : Oper} {ρ : Operand → PV} {σ : Operand → Value} (hr : ∀ x, Rep E (ρ x) (σ x)) {p : PV} (h : vcPure P ρ o.op (· = p)) :
    ∃ z, (execOp σ o).run P E.w = .ok (.value z) E.w ∧ Rep E p z := by
  have lift : ∀ {s : Sem Value}, (∃ z, s.run P E.w = .ok z E.w ∧ Rep E p z) → ∃ z, (do pure (.value (← s)) : Sem Next).run P E.w = .ok (.value z) E.w ∧ Rep E p z := by
    rintro s ⟨z, h1, h2⟩
    exact ⟨z, by simp [h1], h2⟩
  have hopt : ∀ (x : Option Operand) (y : PV), x.map ρ = some y → ∃ z, x.map σ = some z ∧ Rep E y z := by
    intro x y hx
    cases x with
    | none => cases hx
    | some x => simp only [Option.map_some, Option.some.injEq] at hx; subst hx; exact ⟨_, rfl, hr x⟩
  have hnone : ∀ (x : Option Operand), x.map ρ = none → x.map σ = none := by
    intro x hx; cases x with
    | none => rfl
    | some x => cases hx
  cases ho : o.op <;> rw [ho] at h <;> simp only [vcPure, force_eq] at h <;> try exact h.elim
  case move x => subst h; exact ⟨_, by simp [execOp, ho], hr x⟩
  case assign x => subst h; exact ⟨_, by simp [execOp, ho], hr x⟩
  case pick c a b =>
    split at h
    · rename_i t hc
      have := hr c
      rw [hc] at this
      have hc := this.v_eq
      have h := pick2_spec h
      cases t
      · have h : ρ b = p := h
        subst h
        exact ⟨_, by simp [execOp, ho, hc, asBool], hr b⟩
      · have h : ρ a = p := h
        subst h
        exact ⟨_, by simp [execOp, ho, hc, asBool], hr a⟩
    · exact h.elim
  case nilCheck x =>
    have hx := hr x
    split at h
    · rename_i b off hc
      rw [hc] at hx
      subst h
      cases hx' : σ x <;> rw [hx'] at hx <;> cases hx
      rename_i g hg
      exact ⟨_, by simp [execOp, ho, hx'], .ptr _ _ g hg⟩
    · rename_i cs hc
      rw [hc] at hx
      subst h
      obtain ⟨g, o', e, -⟩ := hx.ro_drop 0
      rw [e] at hx
      exact ⟨_, by simp [execOp, ho, e], hx⟩
    · exact h.elim
  case binOp op t x y t' => exact bin_sound ho (hr x) (hr y) h
  case unOp op t x =>
    have := lift (un_sound (P := P) (hr x) h)
    simpa [execOp, ho] using this
  case convert src dst x =>
    have := lift (conv_sound (hr x) h)
    simpa [execOp, ho] using this
  case build t parts =>
    have := lift (build_sound (vals := parts.map fun (i, x) => (i, σ x)) (by simp) (fun j hj => by
      have hj' : j < parts.size := by simpa using hj
      simp [List.getD, hj', hr]) h)
    simpa [execOp, ho] using this
  case slice t x lo hi mx =>
    have := lift (slice_sound (hr x) (hopt lo) (hnone lo) (hopt hi) (hnone hi) (hopt mx) (hnone mx) h)
    simpa [execOp, ho] using this
  case fieldAddr t x f =>
    have := lift (fieldAddr_sound (hr x) h)
    simpa [execOp, ho] using this
  case field t x f =>
    have := lift (field_sound (hr x) h)
    simpa [execOp, ho] using this
  case indexAddr t x i =>
    have := lift (indexAddr_sound (hr x) (hr i) h)
    simpa [execOp, ho] using this
  case index t x i =>
    have := lift (index_sound (hr x) (hr i) h)
    simpa [execOp, ho] using this
  case extract x i =>
    have hx := hr x
    split at h
    · rename_i vs hc
      rw [hc] at hx
      split at h
      · rename_i v hv
        subst h
        cases hx' : σ x <;> rw [hx'] at hx <;> cases hx
        rename_i us hl hh
        have hi : i < vs.length := (List.getElem?_eq_some_iff.1 hv).1
        have := hh i hi
        have e1 : vs.getD i .top = v := by simp [List.getD, hv]
        rw [e1] at this
        have h2 : i < us.size := by omega
        simp only [Array.getD, h2, dite_true] at this
        exact ⟨_, by simp [execOp, ho, hx', Instr.extract, h2], this⟩
      · exact h.elim
    · exact h.elim
end
end Go.Proofs.YtamllmoakgnjoaaDoor
/- Operations of the machine of plain values that read or write boxes, make memory or call; what a state stands for in a world of the model; no program is named here. -/
namespace Go.Proofs.YtamllmoakgnjoaaDoor
open Go.RowKit
/-- What an operation does: its value, what it writes under numbers, and which numbers it looks at. -/
structure Eff where
  v : PV
  wr : List (Nat × HC)
  rd : List Nat
def applyW (hp : Nat → HC) : List (Nat × HC) → Nat → HC
  | [] => hp
  | (k, c) :: l => applyW (upd hp k c) l
/-- Boxes 1, 2 .. -/
def BoxesAt (E : Env) (cs : List (List PV)) : Prop :=
  ∀ b, b < cs.length → ∃ g T vs, E.β (b + 1) = some g ∧ Blk E.w g T vs ∧ RepC E (cs.getD b []) vs ∧ ∀ i, i < vs.size → (vs.getD i undef).oneCell' = true
/-- Called with plain values, in whatever world, the function gives back a plain value; but for the boxes that it is handed it only makes memory. -/
def Spec (C : Ctx) (f : FuncId) (ars : List PV) (ins : List (List PV)) (r : PV) (outs : List (List PV)) : Prop :=
  ∀ (w : World) (F : Nat → Nat → Prop) (β : Nat → Option Nat) (vs : Array Value), C.GP w → C.gs ≤ w.heap.size →
    (∀ g, Rep ⟨w, F, fun _ => none, fun _ => none⟩ (C.glob g) (.pointer (some ⟨g, 0, none⟩))) → RepC ⟨w, F, β, fun _ => none⟩ ars vs → BoxesAt ⟨w, F, β, fun _ => none⟩ ins →
    (∀ g i, F g i → g < w.heap.size) → (∀ b g i, β b = some g → ¬ F g i) → (∀ b g, β b = some g → 0 < b ∧ b ≤ ins.length ∧ C.gs ≤ g ∧ g < w.heap.size) → (∀ b b' g, β b = some g → β b' = some g → b = b') →
    Calls C.P f vs w fun e w' => ∃ x F', e = .returned x ∧ w'.os = w.os ∧ w'.tape = w.tape ∧ w'.output = w.output ∧ w.heap.size ≤ w'.heap.size ∧
      (∀ k, k < w.heap.size → (∀ b, β b ≠ some k) → w'.heap[k]? = w.heap[k]?) ∧ (∀ g i, F g i → F' g i) ∧ (∀ g i, F' g i → F g i ∨ (w.heap.size ≤ g ∧ g < w'.heap.size)) ∧
      r.plain = true ∧ Rep ⟨w', F', β, fun _ => none⟩ r x ∧ outs.length = ins.length ∧ BoxesAt ⟨w', F', β, fun _ => none⟩ outs
def ren (ids : List Nat) : PV → PV
  | .ptr b off => .ptr (ids.getD (b - 1) 0) off
  | x => x
def setAll (ids : List Nat) (outs : List (List PV)) : List (Nat × HC) := ids.zipIdx.map fun p => (p.1, .cells (outs.getD p.2 []))
inductive vcCall (C : Ctx) (f : FuncId) (args : List PV) (hp : Nat → HC) (K : Eff → Prop) : Prop
  | mk (ids : List Nat) (ars : List PV) (css : List (List PV)) (r : PV) (outs : List (List PV)) (h1 : ars.map (ren ids) = args) (h2 : ids.Nodup) (h3 : css.length = ids.length) (h4 : ∀ j, j < ids.length → ids.getD j 0 ≠ 0 ∧ hp (ids.getD j 0) = .cells (css.getD j []))
      (h5 : ∀ c ∈ css, c.all PV.leaf = true) (h6 : ∀ c ∈ outs, c.all PV.plain1 = true) (h7 : ∀ a ∈ ars, a.plain = true ∨ ∃ b off, a = .ptr b off ∧ 0 < b ∧ b ≤ ids.length) (h8 : Spec C f ars (css.map (·.map PV.dem1)) r outs) (h9 : K ⟨r, setAll ids outs, ids⟩) : vcCall C f args hp K
theorem vcCall_plain {C : Ctx} {f : FuncId} {args : List PV} {hp : Nat → HC} {K : Eff → Prop} {r : PV} (h : Spec C f args [] r []) (hp' : args.all PV.plain = true) (hk : K ⟨r, [], []⟩) : vcCall C f args hp K := by
  have hpl := List.all_eq_true.1 hp'
  refine ⟨[], args, [], r, [], ?_, List.nodup_nil, rfl, fun j hj => (by simp at hj), fun c hc => (by cases hc), fun c hc => (by cases hc), fun a ha => .inl (hpl a ha), h, hk⟩
  rw [show args.map (ren []) = args.map id from List.map_congr_left fun a ha => by
    have := hpl a ha
    cases a <;> first | rfl | simp [PV.plain] at this]
  exact List.map_id args
/-- A constant number: a length. -/
def lenOk (x : PV) (n : Nat) : Prop :=
  match x with
  | .v (.int .i64 i) => i = (n : Int)
  | _ => False
def bytesP (P : Program) (t : TypeId) : Option Nat := (P.info? t).map (·.bytes)
def strCells (s : ByteArray) : List (List PV) := s.data.toList.map fun b => [.v (.int .u8 b.toNat)]
/-- What is appended: the elements of a slice, or a string's bytes. -/
def srcOf (P : Program) (tx : TypeId) (x : PV) : Option (List (List PV)) :=
  match x, P.underlying tx with
  | .sl _ es, some (.slice _) => some es
  | .v (.string s), some .string => some (strCells s)
  | _, _ => none
/-- What must hold of both rows for an append. -/
structure AppOk (zs sz by_ : Nat) (es es' : List (List PV)) : Prop where
  z : zs = sz
  p : 0 < sz
  w : ∀ i, i < es.length → (es.getD i []).length = sz
  w' : ∀ i, i < es'.length → (es'.getD i []).length = sz
  m : es.length + es'.length ≤ maxLen
  b : (es.length + es'.length) * by_ ≤ 140737488355328
def vcAppend (P : Program) (t tx : TypeId) (s x : PV) (hp : Nat → HC) (K : Eff → Prop) : Prop :=
  match P.underlying t, srcOf P tx x with
  | some (.slice e), some es' => match szP P e, bytesP P e, (P.info? e).bind (·.zero) with
    | some sz, some by_, some zv => match s with
      | .sl k es => ∃ r, es ++ es' = r ∧ AppOk zv.cells.size sz by_ es es' ∧
          (match k with
           | .full => (match hp 0 with
             | .num m => K ⟨.sl (.own m) r, [(0, .num (m + 1)), (m, .row r.length e)], [0]⟩
             | _ => False)
           | .own t => t ≠ 0 ∧ hp t = .row es.length e ∧ K ⟨.sl (.own t) r, [(t, .row r.length e)], [t]⟩
           | .any => False)
      | _ => False
    | _, _, _ => False
  | _, _ => False
def vcLen (P : Program) (t : TypeId) (x : PV) (K : PV → Prop) : Prop :=
  match P.underlying t, x with
  | some .string, .v (.string s) => K (.v (.int .i64 (s.size : Nat)))
  | some (.slice _), .sl _ es => K (.v (.int .i64 (es.length : Nat)))
  | some (.array n _), _ => K (.v (.int .i64 (n : Nat)))
  | _, _ => False
def vcNew (z : Option (List PV)) (hp : Nat → HC) (K : Eff → Prop) : Prop :=
  match z, hp 0 with
  | some cs, .num m => cs.all PV.leaf = true ∧ K ⟨.ptr m 0, [(0, .num (m + 1)), (m, .cells cs)], [0]⟩
  | _, _ => False
def seqFrom (n : Nat) : List (Nat × PV) → Bool
  | [] => true
  | (i, _) :: l => Nat.beq i n && seqFrom (n + 1) l
def elemsOf (sz : Nat) : List (Nat × PV) → Option (List (List PV))
  | [] => some []
  | (_, x) :: l => match partCells x, elemsOf sz l with
    | some cs, some r => match Nat.beq cs.length sz && cs.all PV.leaf with
      | true => some (cs.map PV.dem1 :: r)
      | false => none
    | _, _ => none
def callOk (P : Program) (f : FuncId) : Bool :=
  match P.funcs[f]? with
  | some fn => fn.body.isSome && !(fn.name == "runtime.NumGoroutine")
  | none => false
def vcOp (C : Ctx) (ρ : Operand → PV) (op : Op) (hp : Nat → HC) (K : Eff → Prop) : Prop :=
  match op with
  | .load t x => match ρ x with
    | .ro cs => vcPart C.P t cs 0 fun p => K ⟨p, [], []⟩
    | .ptr b off => match hp b with
      | .cells cs => b ≠ 0 ∧ vcPart C.P t cs off fun p => K ⟨p, [], [b]⟩
      | _ => False
    | _ => False
  | .store t x y => match ρ x with
    | .ptr b off => match hp b, partCells (ρ y), szP C.P t with
      | .cells cs, some ds, some n => b ≠ 0 ∧ Nat.beq ds.length n = true ∧ Nat.ble (off + n) cs.length = true ∧ ds.all PV.leaf = true ∧ K ⟨.v undef, [(b, .cells (splice cs ds off))], [b]⟩
      | _, _, _ => False
    | _ => False
  | .alloc t => vcNew (zeroP C.P t) hp K
  | .box _ x => vcNew (partCells (ρ x)) hp K
  | .buildSlice t len parts => match C.P.underlying t with
    | some (.slice e) => match szP C.P e, zeroP C.P e with
      | some sz, some z => 0 < sz ∧ z.length = sz ∧ len * sz ≤ 16777216 ∧ parts.size = len ∧ seqFrom 0 (parts.toList.map fun p => (p.1, ρ p.2)) = true ∧
          (match elemsOf sz (parts.toList.map fun p => (p.1, ρ p.2)) with
           | some es => K ⟨.sl .full es, [], []⟩
           | none => False)
      | _, _ => False
    | _ => False
  | .makeSlice t l c => match C.P.underlying t with
    | some (.slice e) => match szP C.P e, bytesP C.P e, zeroP C.P e, hp 0 with
      | some sz, some by_, some z, .num m => ∃ n k, lenOk (ρ l) n ∧ lenOk (ρ c) k ∧ n ≤ k ∧ by_ * k ≤ 281474976710656 ∧ k ≤ maxLen ∧ 0 < sz ∧ z.length = sz ∧ z.all PV.leaf = true ∧
          K ⟨.sl (.own m) (List.replicate n (z.map PV.dem1)), [(0, .num (m + 1)), (m, .row n e)], [0]⟩
      | _, _, _, _ => False
    | _ => False
  | .call c => match c.callee with
    | .builtin .append => match c.args[0]?, c.args[1]?, c.argTypes[0]?, c.argTypes[1]? with
      | some s, some x, some t, some tx => c.args.size = 2 ∧ c.argTypes.size = 2 ∧ vcAppend C.P t tx (ρ s) (ρ x) hp K
      | _, _, _, _ => False
    | .builtin .len => match c.args[0]?, c.argTypes[0]? with
      | some x, some t => vcLen C.P t (ρ x) fun p => K ⟨p, [], []⟩
      | _, _ => False
    | .value (.func f) => callOk C.P f = true ∧ vcCall C f (c.args.toList.map fun a => (ρ a).dem) hp K
    | _ => False
  | op => vcPure C.P ρ op fun p => K ⟨p, [], []⟩
def inP (pb : Nat → Option Nat) (g : Nat) : Prop := ∃ b, pb b = some g
/-- What the model holds of a state: what never changes. -/
structure HB (C : Ctx) (w0 : World) (pb : Nat → Option Nat) (F0 : Nat → Nat → Prop) (E : Env) : Prop where
  gp : C.GP w0
  gpk : ∀ w w' : World, (∀ k, k < C.gs → w'.heap[k]? = w.heap[k]?) → C.GP w → C.GP w'
  os : E.w.os = w0.os
  tape : E.w.tape = w0.tape
  output : E.w.output = w0.output
  size : w0.heap.size ≤ E.w.heap.size
  old : ∀ k, k < w0.heap.size → ¬ inP pb k → E.w.heap[k]? = w0.heap[k]?
  gsz : C.gs ≤ w0.heap.size
  glob : ∀ g, Rep E.inn (C.glob g) (.pointer (some ⟨g, 0, none⟩))
  Fin : ∀ g i, E.F g i → g < E.w.heap.size ∧ (g < w0.heap.size → F0 g i)
  Fsub : ∀ g i, F0 g i → E.F g i
  pbin : ∀ g, inP pb g → C.gs ≤ g ∧ g < w0.heap.size
  kp : ∀ b g, pb b = some g → E.β b = some g
/-- An own row: it is full, or the cells behind it are nobody's. -/
def OwnAt (C : Ctx) (w0 : World) (hp : Nat → HC) (E : Env) (t n : Nat) (e : TypeId) : Prop :=
  ∃ A c, E.O t = some (.slice A n c, n) ∧ n ≤ c ∧ c ≤ maxLen ∧ (c = n ∨ ∃ g cur sz, A = some ⟨g, 0, none⟩ ∧ Blk E.w g e cur ∧ szP C.P e = some sz ∧ cur.size = c * sz ∧ w0.heap.size ≤ g ∧ (∀ i, E.F g i → i < n * sz) ∧ (∀ b, E.β b ≠ some g) ∧
    ∀ t' n' e' o' c', t' ≠ 0 → hp t' = .row n' e' → E.O t' = some (.slice (some ⟨g, o', none⟩) n' c', n') → n' < c' → t' = t)
/-- Boxes and own rows. -/
structure HO (C : Ctx) (w0 : World) (pb : Nat → Option Nat) (hp : Nat → HC) (E : Env) : Prop where
  nx : ∃ m, hp 0 = .num m ∧ 0 < m ∧ ∀ b, m ≤ b → E.β b = none ∧ E.O b = none ∧ hp b = .none
  box : ∀ b cs, b ≠ 0 → hp b = .cells cs → ∃ g T vs, E.β b = some g ∧ Blk E.w g T vs ∧ RepC E cs vs ∧ ∀ i, i < vs.size → (vs.getD i undef).oneCell' = true
  bnew : ∀ b g, E.β b = some g → b ≠ 0 ∧ g < E.w.heap.size ∧ (w0.heap.size ≤ g ∨ inP pb g)
  binj : ∀ b b' g, E.β b = some g → E.β b' = some g → b = b'
  bF : ∀ b g i, E.β b = some g → ¬ E.F g i
  own : ∀ t n e, t ≠ 0 → hp t = .row n e → OwnAt C w0 hp E t n e
structure HR (C : Ctx) (w0 : World) (pb : Nat → Option Nat) (F0 : Nat → Nat → Prop) (hp : Nat → HC) (E : Env) : Prop where
  b : HB C w0 pb F0 E
  o : HO C w0 pb hp E
theorem RepC.le {E E' : Env} (h : E.le E') {cs : List PV} {vs : Array Value} (r : RepC E cs vs) : RepC E' cs vs := ⟨r.1, fun i hi => (r.2 i hi).le h⟩
section
variable {C : Ctx} {w0 : World} {pb : Nat → Option Nat} {F0 : Nat → Nat → Prop} {hp : Nat → HC} {E : Env}
theorem HB.next (h : HB C w0 pb F0 E) {E' : Env} (hle : E.le E') (h1 : E'.w.os = E.w.os) (h2 : E'.w.tape = E.w.tape) (h3 : E'.w.output = E.w.output) (h4 : E.w.heap.size ≤ E'.w.heap.size)
    (h5 : ∀ k, k < w0.heap.size → ¬ inP pb k → E'.w.heap[k]? = E.w.heap[k]?) (h6 : ∀ g i, E'.F g i → E.F g i ∨ (w0.heap.size ≤ g ∧ g < E'.w.heap.size)) : HB C w0 pb F0 E' where
  gp := h.gp
  gpk := h.gpk
  os := h1.trans h.os
  tape := h2.trans h.tape
  output := h3.trans h.output
  size := Nat.le_trans h.size h4
  old := fun k hk hn => (h5 k hk hn).trans (h.old k hk hn)
  gsz := h.gsz
  glob := fun g => (h.glob g).le hle.inn
  Fin := fun g i hf => by
    rcases h6 g i hf with h0 | h0
    · exact ⟨Nat.lt_of_lt_of_le (h.Fin g i h0).1 h4, (h.Fin g i h0).2⟩
    · exact ⟨h0.2, fun hl => by omega⟩
  Fsub := fun g i hf => hle.F g i (h.Fsub g i hf)
  pbin := h.pbin
  kp := fun b g hb => hle.β b g (h.kp b g hb)
theorem HB.places (h : HB C w0 pb F0 E) : C.GP E.w := h.gpk w0 E.w (fun k hk => h.old k (Nat.lt_of_lt_of_le hk h.gsz) fun hp => by have := (h.pbin k hp).1; omega) h.gp
/-- All blocks are as they were; the cells that are read only may be more, in new blocks. -/
theorem HR.grow (h : HR C w0 pb F0 hp E) (w' : World) (F' : Nat → Nat → Prop) (h1 : w'.os = E.w.os) (h2 : w'.tape = E.w.tape) (h3 : w'.output = E.w.output) (h4 : E.w.heap.size ≤ w'.heap.size)
    (h5 : ∀ k, k < E.w.heap.size → w'.heap[k]? = E.w.heap[k]?) (h6 : ∀ g i, E.F g i → F' g i) (h7 : ∀ g i, F' g i → E.F g i ∨ (E.w.heap.size ≤ g ∧ g < w'.heap.size)) :
    HR C w0 pb F0 hp ⟨w', F', E.β, E.O⟩ ∧ E.le ⟨w', F', E.β, E.O⟩ := by
  have hle : E.le ⟨w', F', E.β, E.O⟩ := ⟨h6, fun g i hf => World.cell?_of_block (h5 g (h.b.Fin g i hf).1), fun _ _ h => h, fun _ v n h => ⟨v, n, h, Nat.le_refl _, fun _ => rfl⟩⟩
  refine ⟨⟨h.b.next hle h1 h2 h3 h4 (fun k hk _ => h5 k (Nat.lt_of_lt_of_le hk h.b.size)) (fun g i hf => ?_), ?_⟩, hle⟩
  · rcases h7 g i hf with h0 | h0
    · exact .inl h0
    · exact .inr ⟨Nat.le_trans h.b.size h0.1, h0.2⟩
  · refine ⟨h.o.nx, fun b cs hb hc => ?_, fun b g hb => ?_, h.o.binj, fun b g i hb hf => ?_, fun t n e ht hr => ?_⟩
    · obtain ⟨g, T, vs, e1, e2, e3, e4⟩ := h.o.box b cs hb hc
      exact ⟨g, T, vs, e1, (h5 g e2.lt).trans e2, e3.le hle, e4⟩
    · have := h.o.bnew b g hb
      exact ⟨this.1, Nat.lt_of_lt_of_le this.2.1 h4, this.2.2⟩
    · rcases h7 g i hf with h0 | h0
      · exact h.o.bF b g i hb h0
      · have := (h.o.bnew b g hb).2.1
        omega
    · obtain ⟨A, c, e1, e2, e3, e4⟩ := h.o.own t n e ht hr
      refine ⟨A, c, e1, e2, e3, ?_⟩
      rcases e4 with e4 | ⟨g, cur, sz, q1, q2, q3, q4, q5, q6, q7, q8⟩
      · exact .inl e4
      · refine .inr ⟨g, cur, sz, q1, (h5 g q2.lt).trans q2, q3, q4, q5, fun i hf => ?_, q7, q8⟩
        rcases h7 g i hf with h0 | h0
        · exact q6 i h0
        · have := q2.lt
          omega
theorem HR.drew (h : HR C w0 pb F0 hp E) : HR C w0 pb F0 hp ⟨E.w.drew, E.F, E.β, E.O⟩ ∧ E.le ⟨E.w.drew, E.F, E.β, E.O⟩ :=
  h.grow E.w.drew E.F rfl rfl rfl (Nat.le_refl _) (fun _ _ => rfl) (fun _ _ h => h) (fun _ _ h => .inl h)
end
end Go.Proofs.YtamllmoakgnjoaaDoor
/- What the steps of the machine of plain values that write or make memory leave in the model's world; no program is named here. -/
namespace Go.Proofs.YtamllmoakgnjoaaDoor
open Go.RowKit
theorem idx_lt {i j n sz : Nat} (hi : i < n) (hj : j < sz) : i * sz + j < n * sz := by
  have h1 : (i + 1) * sz ≤ n * sz := Nat.mul_le_mul_right sz hi
  rw [Nat.add_mul] at h1
  omega
theorem setCells_meta (g : Nat) : ∀ (vs : List Value) (o : Nat) (w : World), (w.setCells g o vs).os = w.os ∧ (w.setCells g o vs).tape = w.tape ∧ (w.setCells g o vs).output = w.output ∧ (w.setCells g o vs).heap.size = w.heap.size ∧ ∀ k, k ≠ g → (w.setCells g o vs).heap[k]? = w.heap[k]?
  | [], _, w => ⟨rfl, rfl, rfl, rfl, fun _ _ => rfl⟩
  | v :: r, o, w => by
    obtain ⟨h1, h2, h3, h4, h5⟩ := setCells_meta g r (o + 1) (w.setCell ⟨g, o, none⟩ v)
    exact ⟨h1, h2, h3, by rw [World.setCells, h4]; simp, fun k hk => by rw [World.setCells, h5 k hk]; exact Below.heap_setCell w ⟨g, o, none⟩ v k hk⟩
theorem blk_setCells {g : Nat} {T : TypeId} : ∀ (vs : List Value) (o : Nat) (w : World) (cur : Array Value), Blk w g T cur → o + vs.length ≤ cur.size →
    ∃ cur', Blk (w.setCells g o vs) g T cur' ∧ cur'.size = cur.size ∧ ∀ i, cur'.getD i undef = if o ≤ i ∧ i < o + vs.length then vs.getD (i - o) undef else cur.getD i undef
  | [], o, w, cur, hb, _ => ⟨cur, hb, rfl, fun i => by rw [if_neg (by simp only [List.length_nil]; omega)]⟩
  | v :: r, o, w, cur, hb, hl => by
    obtain ⟨cur', h1, h2, h3⟩ := blk_setCells r (o + 1) (w.setCell ⟨g, o, none⟩ v) (cur.setIfInBounds o v) (hb.set_ o v) (by simp only [List.length_cons] at hl; simp; omega)
    refine ⟨cur', h1, by rw [h2]; simp, fun i => ?_⟩
    rw [h3 i]
    simp only [List.length_cons] at hl ⊢
    by_cases hi : o + 1 ≤ i ∧ i < o + 1 + r.length
    · rw [if_pos hi, if_pos (by omega)]
      rw [show i - o = (i - (o + 1)) + 1 by omega]
      simp [List.getD]
    · rw [if_neg hi]
      by_cases he : i = o
      · subst he
        rw [if_pos (by omega)]
        have : i < cur.size := by omega
        simp [Array.getD, this]
      · rw [if_neg (by omega)]
        simp only [Array.getD_eq_getD_getElem?]
        rw [Array.getElem?_setIfInBounds_ne (fun e => he e.symm)]
theorem Blk.getD {w : World} {g : Nat} {T : TypeId} {cs : Array Value} (h : Blk w g T cs) {i : Nat} (hi : i < cs.size) : w.cell? ⟨g, i, none⟩ = some (cs.getD i undef) := by
  rw [h.cell]
  simp [Array.getD, hi]
section
variable {C : Ctx} {w0 : World} {pb : Nat → Option Nat} {F0 : Nat → Nat → Prop} {hp : Nat → HC} {E : Env}
/-- A row of one's own block, as a slice. -/
theorem rep_row {E' : Env} {g n c sz : Nat} {es : List (List PV)} (hn : es.length = n) (hw : ∀ i, i < n → (es.getD i []).length = sz) (hc : n ≤ c) (hm : c ≤ maxLen) (val : Nat → Value)
    (hcell : ∀ q, q < n * sz → E'.w.cell? ⟨g, q, none⟩ = some (val q) ∧ E'.F g q ∧ (val q).oneCell' = true) (hr : ∀ i j, i < n → j < sz → Rep E'.inn ((es.getD i []).getD j .top) (val (i * sz + j)))
    (k : K) (h3 : k = .full → c = n) (h4 : ∀ t, k = .own t → ∃ v m, E'.O t = some (v, m) ∧ n ≤ m ∧ (n = m → v = .slice (some ⟨g, 0, none⟩) n c)) : Rep E' (.sl k es) (.slice (some ⟨g, 0, none⟩) n c) := by
  subst hn
  exact .sl k es (some ⟨g, 0, none⟩) c g 0 sz (fun i j => val (i * sz + j)) hc hm h3 h4 hw (fun _ => rfl) (fun i j hi hj => by
    have := hcell (i * sz + j) (idx_lt hi hj)
    simpa using this) hr
/-- A new box. -/
theorem HR.newbox (h : HR C w0 pb F0 hp E) {m : Nat} (hm : hp 0 = .num m) (T : TypeId) (cs : List PV) (vs : Array Value) (hr : RepC E cs vs) (ho : ∀ i, i < vs.size → (vs.getD i undef).oneCell' = true) :
    let E' : Env := ⟨E.w.alloc (.cells vs T), E.F, fun b => if b = m then some E.w.heap.size else E.β b, E.O⟩
    HR C w0 pb F0 (upd (upd hp 0 (.num (m + 1))) m (.cells cs)) E' ∧ E.le E' ∧ Rep E' (.ptr m 0) (.pointer (some ⟨E.w.heap.size, 0, none⟩)) := by
  intro E'
  obtain ⟨m', e0, hpos, hfresh⟩ := h.o.nx
  rw [hm] at e0
  injection e0 with e0
  subst e0
  have hβ := (hfresh m (Nat.le_refl _)).1
  have hle : E.le E' := ⟨fun _ _ h => h, fun g i hf => World.cell?_of_block (Below.heap_alloc _ _ _ (h.b.Fin g i hf).1), fun b g hb => by
    have : b ≠ m := fun e => by subst e; rw [hβ] at hb; cases hb
    show (if b = m then _ else _) = _
    rw [if_neg this]; exact hb, fun _ v n h => ⟨v, n, h, Nat.le_refl _, fun _ => rfl⟩⟩
  have hnew : E'.β m = some E.w.heap.size := if_pos rfl
  have hold : ∀ b, b ≠ m → E'.β b = E.β b := fun b hb => if_neg hb
  have hhp : ∀ b, b ≠ 0 → b ≠ m → upd (upd hp 0 (.num (m + 1))) m (.cells cs) b = hp b := fun b h0 h1 => by rw [upd_ne _ _ h1, upd_ne _ _ h0]
  refine ⟨⟨h.b.next hle rfl rfl rfl (by show E.w.heap.size ≤ (E.w.alloc _).heap.size; simp) (fun k hk _ => Below.heap_alloc _ _ _ (Nat.lt_of_lt_of_le hk h.b.size)) (fun g i hf => .inl hf), ?_⟩, hle, .ptr m 0 _ hnew⟩
  refine ⟨⟨m + 1, ?_, by omega, fun b hb => ?_⟩, fun b ds hb hd => ?_, fun b g hb => ?_, fun b b' g hb hb' => ?_, fun b g i hb hf => ?_, fun t n e ht hrow => ?_⟩
  · rw [upd_ne _ _ (by omega), upd_same]
  · have := hfresh b (by omega)
    exact ⟨(hold b (by omega)).trans this.1, this.2.1, (hhp b (by omega) (by omega)).trans this.2.2⟩
  · by_cases hbm : b = m
    · subst hbm
      rw [upd_same] at hd
      injection hd with hd
      subst hd
      exact ⟨_, T, vs, hnew, Blk.new _ _ _, hr.le hle, ho⟩
    · rw [hhp b hb hbm] at hd
      obtain ⟨g, T', vs', e1, e2, e3, e4⟩ := h.o.box b ds hb hd
      exact ⟨g, T', vs', (hold b hbm).trans e1, e2.alloc _, e3.le hle, e4⟩
  · by_cases hbm : b = m
    · subst hbm
      rw [hnew] at hb
      injection hb with hb
      subst hb
      exact ⟨by omega, by show _ < (E.w.alloc _).heap.size; simp, .inl h.b.size⟩
    · rw [hold b hbm] at hb
      have := h.o.bnew b g hb
      exact ⟨this.1, by show _ < (E.w.alloc _).heap.size; simp; omega, this.2.2⟩
  · by_cases hbm : b = m
    · by_cases hbm' : b' = m
      · omega
      · subst hbm
        rw [hnew] at hb
        rw [hold b' hbm'] at hb'
        injection hb with hb
        have := (h.o.bnew b' g hb').2.1
        omega
    · rw [hold b hbm] at hb
      by_cases hbm' : b' = m
      · subst hbm'
        rw [hnew] at hb'
        injection hb' with hb'
        have := (h.o.bnew b g hb).2.1
        omega
      · rw [hold b' hbm'] at hb'
        exact h.o.binj b b' g hb hb'
  · by_cases hbm : b = m
    · subst hbm
      rw [hnew] at hb
      injection hb with hb
      have := (h.b.Fin g i hf).1
      omega
    · rw [hold b hbm] at hb
      exact h.o.bF b g i hb hf
  · have htm : t ≠ m := fun e => by subst e; rw [upd_same] at hrow; cases hrow
    rw [hhp t ht htm] at hrow
    obtain ⟨A, c, e1, e2, e3, e4⟩ := h.o.own t n e ht hrow
    refine ⟨A, c, e1, e2, e3, ?_⟩
    rcases e4 with e4 | ⟨g, cur, sz, q1, q2, q3, q4, q5, q6, q7, q8⟩
    · exact .inl e4
    · refine .inr ⟨g, cur, sz, q1, q2.alloc _, q3, q4, q5, q6, fun b hb => ?_, fun t' n' e' o' c' ht' hrow' ho' hc' => ?_⟩
      · by_cases hbm : b = m
        · subst hbm
          rw [hnew] at hb
          injection hb with hb
          have := q2.lt
          omega
        · rw [hold b hbm] at hb
          exact q7 b hb
      · have ht'm : t' ≠ m := fun e => by subst e; rw [upd_same] at hrow'; cases hrow'
        rw [hhp t' ht' ht'm] at hrow'
        exact q8 t' n' e' o' c' ht' hrow' ho' hc'
/-- A box's cells are written. -/
theorem HR.store (h : HR C w0 pb F0 hp E) {b : Nat} (hb0 : b ≠ 0) {cs : List PV} (hb : hp b = .cells cs) (ds : List PV) (off : Nat) (xs : List Value) (hl : ds.length = xs.length) (hoff : off + ds.length ≤ cs.length)
    (hr : ∀ i, i < ds.length → Rep E (ds.getD i .top) (xs.getD i undef)) (h1 : ∀ v ∈ xs, v.oneCell' = true) : ∃ g, E.β b = some g ∧
    (∀ j, j < xs.length → (E.w.cell? ⟨g, off + j, none⟩).isSome = true) ∧ (∀ j, j < xs.length → E.w.frozen? ⟨g, off + j, none⟩ = false) ∧
    HR C w0 pb F0 (upd hp b (.cells (splice cs ds off))) ⟨E.w.setCells g off xs, E.F, E.β, E.O⟩ ∧ E.le ⟨E.w.setCells g off xs, E.F, E.β, E.O⟩ := by
  obtain ⟨g, T, vs, e1, e2, e3, e4⟩ := h.o.box b cs hb0 hb
  obtain ⟨m1, m2, m3, m4, m5⟩ := setCells_meta g xs off E.w
  have hsz : cs.length = vs.size := e3.1
  obtain ⟨vs', k1, k2, k3⟩ := blk_setCells xs off E.w vs e2 (by omega)
  have hle : E.le ⟨E.w.setCells g off xs, E.F, E.β, E.O⟩ := ⟨fun _ _ h => h, fun g' i hf => World.cell?_of_block (m5 g' fun e => by subst e; exact h.o.bF b _ i e1 hf), fun _ _ h => h, fun _ v n h => ⟨v, n, h, Nat.le_refl _, fun _ => rfl⟩⟩
  refine ⟨g, e1, fun j hj => by rw [e2.getD (by omega)]; rfl, fun j _ => e2.frozen _, ⟨h.b.next hle m1 m2 m3 (by show _ ≤ (E.w.setCells g off xs).heap.size; rw [m4]; exact Nat.le_refl _) (fun k hk hn => m5 k fun e => ?_) (fun g i hf => .inl hf), ?_⟩, hle⟩
  · subst e
    rcases (h.o.bnew b _ e1).2.2 with h0 | h0
    · omega
    · exact hn h0
  · have hother : ∀ b' g', b' ≠ b → E.β b' = some g' → g' ≠ g := fun b' g' hne hb' e => hne (h.o.binj b' b g' hb' (e ▸ e1))
    obtain ⟨m, q1, q2, q3⟩ := h.o.nx
    have hbm : b < m := by
      rcases Nat.lt_or_ge b m with hlt | hge
      · exact hlt
      · have := (q3 b hge).1
        rw [e1] at this; cases this
    refine ⟨⟨m, by rw [upd_ne _ _ (fun e => hb0 e.symm)]; exact q1, q2, fun b' hb' => by rw [upd_ne _ _ (show b' ≠ b by omega)]; exact q3 b' hb'⟩, fun b' ds' hb' hd' => ?_, fun b' g' hb' => ?_, h.o.binj, h.o.bF, fun t n e ht hrow => ?_⟩
    · by_cases hbb : b' = b
      · subst hbb
        rw [upd_same] at hd'
        injection hd' with hd'
        subst hd'
        refine ⟨g, T, vs', e1, k1, ⟨by rw [splice_len _ _ _ hoff, k2]; exact hsz, fun i hi => ?_⟩, fun i hi => ?_⟩
        · rw [splice_get _ _ _ hoff, k3 i]
          by_cases hin : off ≤ i ∧ i < off + ds.length
          · rw [if_pos hin, if_pos (by omega)]
            exact (hr (i - off) (by omega)).le hle
          · rw [if_neg hin, if_neg (by omega)]
            rw [splice_len _ _ _ hoff] at hi
            exact (e3.2 i hi).le hle
        · rw [k3 i]
          by_cases hin : off ≤ i ∧ i < off + xs.length
          · rw [if_pos hin]
            have : i - off < xs.length := by omega
            simp only [List.getD, List.getElem?_eq_getElem this, Option.getD_some]
            exact h1 _ (List.getElem_mem this)
          · rw [if_neg hin]
            exact e4 i (by omega)
      · rw [upd_ne _ _ hbb] at hd'
        obtain ⟨g', T', vs2, f1, f2, f3, f4⟩ := h.o.box b' ds' hb' hd'
        exact ⟨g', T', vs2, f1, (m5 g' (hother b' g' hbb f1)).trans f2, f3.le hle, f4⟩
    · have := h.o.bnew b' g' hb'
      exact ⟨this.1, by show _ < (E.w.setCells g off xs).heap.size; rw [m4]; exact this.2.1, this.2.2⟩
    · have htb : t ≠ b := fun e' => by subst e'; rw [upd_same] at hrow; cases hrow
      rw [upd_ne _ _ htb] at hrow
      obtain ⟨A, c, f1, f2, f3, f4⟩ := h.o.own t n e ht hrow
      refine ⟨A, c, f1, f2, f3, ?_⟩
      rcases f4 with f4 | ⟨g', cur, sz, p1, p2, p3, p4, p5, p6, p7, p8⟩
      · exact .inl f4
      · refine .inr ⟨g', cur, sz, p1, (m5 g' fun e' => by subst e'; exact p7 b e1).trans p2, p3, p4, p5, p6, p7, fun t' n' e' o' c' ht' hrow' ho' hc' => ?_⟩
        have ht'b : t' ≠ b := fun e'' => by subst e''; rw [upd_same] at hrow'; cases hrow'
        rw [upd_ne _ _ ht'b] at hrow'
        exact p8 t' n' e' o' c' ht' hrow' ho' hc'
/-- A new block, as own row number t: a new number, or an old one whose row goes on there. -/
theorem HR.newrow (h : HR C w0 pb F0 hp E) {t : Nat} (ht0 : t ≠ 0) {hp' : Nat → HC} {n c sz : Nat} {e : TypeId} (cur : Array Value) (hsz : szP C.P e = some sz) (hcur : cur.size = c * sz) (hnc : n ≤ c) (hcm : c ≤ maxLen)
    (hnx : ∃ m, hp' 0 = .num m ∧ 0 < m ∧ t < m ∧ ∀ b, m ≤ b → E.β b = none ∧ E.O b = none ∧ hp' b = .none) (hrow : hp' t = .row n e) (hother : ∀ b, b ≠ 0 → b ≠ t → hp' b = hp b) (hold : ∀ v k, E.O t = some (v, k) → k < n) :
    let E' : Env := ⟨E.w.alloc (.cells cur e), fun g i => E.F g i ∨ (g = E.w.heap.size ∧ i < n * sz), E.β, fun b => if b = t then some (.slice (some ⟨E.w.heap.size, 0, none⟩) n c, n) else E.O b⟩
    HR C w0 pb F0 hp' E' ∧ E.le E' := by
  intro E'
  have hnew : E'.O t = some (.slice (some ⟨E.w.heap.size, 0, none⟩) n c, n) := if_pos rfl
  have hO : ∀ b, b ≠ t → E'.O b = E.O b := fun b hb => if_neg hb
  have hle : E.le E' := ⟨fun _ _ h => .inl h, fun g i hf => World.cell?_of_block (Below.heap_alloc _ _ _ (h.b.Fin g i hf).1), fun _ _ h => h, fun b v k hv => by
    by_cases hb : b = t
    · subst hb
      exact ⟨_, _, hnew, Nat.le_of_lt (hold v k hv), fun e' => by have := hold v k hv; omega⟩
    · exact ⟨v, k, (hO b hb).trans hv, Nat.le_refl _, fun _ => rfl⟩⟩
  refine ⟨⟨h.b.next hle rfl rfl rfl (by show E.w.heap.size ≤ (E.w.alloc _).heap.size; simp) (fun k hk _ => Below.heap_alloc _ _ _ (Nat.lt_of_lt_of_le hk h.b.size)) (fun g i hf => ?_), ?_⟩, hle⟩
  · rcases hf with hf | ⟨rfl, _⟩
    · exact .inl hf
    · exact .inr ⟨h.b.size, by show _ < (E.w.alloc _).heap.size; simp⟩
  · refine ⟨?_, fun b cs hb hc => ?_, fun b g hb => ?_, h.o.binj, fun b g i hb hf => ?_, fun s k e' hs hk => ?_⟩
    · obtain ⟨m, q1, q2, q3, q4⟩ := hnx
      exact ⟨m, q1, q2, fun b hb => ⟨(q4 b hb).1, (hO b (by omega)).trans (q4 b hb).2.1, (q4 b hb).2.2⟩⟩
    · have hbt : b ≠ t := fun e' => by subst e'; rw [hrow] at hc; cases hc
      rw [hother b hb hbt] at hc
      obtain ⟨g, T, vs, e1, e2, e3, e4⟩ := h.o.box b cs hb hc
      exact ⟨g, T, vs, e1, e2.alloc _, e3.le hle, e4⟩
    · have := h.o.bnew b g hb
      exact ⟨this.1, by show _ < (E.w.alloc _).heap.size; simp; omega, this.2.2⟩
    · rcases hf with hf | ⟨rfl, _⟩
      · exact h.o.bF b g i hb hf
      · have := (h.o.bnew b _ hb).2.1
        omega
    · by_cases hst : s = t
      · subst hst
        rw [hrow] at hk
        injection hk with hk1 hk2
        subst hk1 hk2
        refine ⟨_, c, hnew, hnc, hcm, .inr ⟨E.w.heap.size, cur, sz, rfl, Blk.new _ _ _, hsz, hcur, h.b.size, fun i hf => ?_, fun b hb => ?_, fun t' n' e' o' c' ht' hrow' ho' hc' => ?_⟩⟩
        · rcases hf with hf | ⟨_, hf⟩
          · have := (h.b.Fin _ i hf).1
            omega
          · exact hf
        · have := (h.o.bnew b _ hb).2.1
          omega
        · apply Classical.byContradiction
          intro hne
          rw [hother t' ht' hne] at hrow'
          rw [hO t' hne] at ho'
          obtain ⟨A, c2, f1, f2, f3, f4⟩ := h.o.own t' n' e' ht' hrow'
          rw [ho'] at f1
          injection f1 with f1
          injection f1 with f1
          injection f1 with f1 _ f5
          subst f5
          rcases f4 with f4 | ⟨g', cur', sz', p1, p2, _⟩
          · omega
          · rw [p1] at f1
            injection f1 with f1
            injection f1 with f1
            have := p2.lt
            omega
      · rw [hother s hs hst] at hk
        obtain ⟨A, c2, f1, f2, f3, f4⟩ := h.o.own s k e' hs hk
        refine ⟨A, c2, (hO s hst).trans f1, f2, f3, ?_⟩
        rcases f4 with f4 | ⟨g', cur', sz', p1, p2, p3, p4, p5, p6, p7, p8⟩
        · exact .inl f4
        · refine .inr ⟨g', cur', sz', p1, p2.alloc _, p3, p4, p5, fun i hf => ?_, p7, fun t' n' e'' o' c' ht' hrow' ho' hc' => ?_⟩
          · rcases hf with hf | ⟨rfl, _⟩
            · exact p6 i hf
            · have := p2.lt
              omega
          · by_cases htt : t' = t
            · subst htt
              rw [hnew] at ho'
              injection ho' with ho'
              injection ho' with ho'
              injection ho' with ho' _
              injection ho' with ho'
              injection ho' with ho'
              have := p2.lt
              omega
            · rw [hother t' ht' htt] at hrow'
              rw [hO t' htt] at ho'
              exact p8 t' n' e'' o' c' ht' hrow' ho' hc'
/-- An own row goes on in its room. -/
theorem HR.approom (h : HR C w0 pb F0 hp E) {t : Nat} (ht0 : t ≠ 0) {n c m sz g : Nat} {e : TypeId} {cur : Array Value} (hrow : hp t = .row n e) (hO : E.O t = some (.slice (some ⟨g, 0, none⟩) n c, n)) (hB : Blk E.w g e cur) (hsz : szP C.P e = some sz)
    (hcur : cur.size = c * sz) (hg : w0.heap.size ≤ g) (hF : ∀ i, E.F g i → i < n * sz) (hβ : ∀ b, E.β b ≠ some g) (hdis : ∀ t' n' e' o' c', t' ≠ 0 → hp t' = .row n' e' → E.O t' = some (.slice (some ⟨g, o', none⟩) n' c', n') → n' < c' → t' = t)
    (hm0 : 0 < m) (hnc : n + m ≤ c) (hcm : c ≤ maxLen) (news : List Value) (hnews : news.length = m * sz) :
    let E' : Env := ⟨E.w.setCells g (n * sz) news, fun g' i => E.F g' i ∨ (g' = g ∧ i < (n + m) * sz), E.β, fun b => if b = t then some (.slice (some ⟨g, 0, none⟩) (n + m) c, n + m) else E.O b⟩
    HR C w0 pb F0 (upd hp t (.row (n + m) e)) E' ∧ E.le E' := by
  intro E'
  obtain ⟨m1, m2, m3, m4, m5⟩ := setCells_meta g news (n * sz) E.w
  have hfit : n * sz + news.length ≤ cur.size := by
    rw [hnews, hcur, ← Nat.add_mul]
    exact Nat.mul_le_mul_right sz hnc
  obtain ⟨cur', k1, k2, k3⟩ := blk_setCells news (n * sz) E.w cur hB hfit
  have hnew : E'.O t = some (.slice (some ⟨g, 0, none⟩) (n + m) c, n + m) := if_pos rfl
  have hOo : ∀ b, b ≠ t → E'.O b = E.O b := fun b hb => if_neg hb
  have hle : E.le E' := ⟨fun _ _ h => .inl h, fun g' i hf => by
    by_cases hgg : g' = g
    · subst hgg
      have hi := hF i hf
      show (E.w.setCells g' (n * sz) news).cell? _ = _
      have h1 : i < cur.size := by
        have : n * sz ≤ c * sz := Nat.mul_le_mul_right sz (by omega)
        omega
      rw [Blk.getD k1 (by omega), hB.getD h1, k3 i, if_neg (by omega)]
    · exact World.cell?_of_block (m5 g' hgg), fun _ _ h => h, fun b v k hv => by
    by_cases hb : b = t
    · subst hb
      rw [hO] at hv
      injection hv with hv
      injection hv with hv1 hv2
      exact ⟨_, _, hnew, by omega, fun e' => by omega⟩
    · exact ⟨v, k, (hOo b hb).trans hv, Nat.le_refl _, fun _ => rfl⟩⟩
  refine ⟨⟨h.b.next hle m1 m2 m3 (by show _ ≤ (E.w.setCells g (n * sz) news).heap.size; rw [m4]; exact Nat.le_refl _) (fun k hk _ => m5 k (by omega)) (fun g' i hf => ?_), ?_⟩, hle⟩
  · rcases hf with hf | ⟨rfl, _⟩
    · exact .inl hf
    · exact .inr ⟨hg, by show _ < (E.w.setCells g' (n * sz) news).heap.size; rw [m4]; exact hB.lt⟩
  · refine ⟨?_, fun b cs hb hc => ?_, fun b g' hb => ?_, h.o.binj, fun b g' i hb hf => ?_, fun s k e' hs hk => ?_⟩
    · obtain ⟨x, q1, q2, q3⟩ := h.o.nx
      have htx : t < x := by
        rcases Nat.lt_or_ge t x with hlt | hge
        · exact hlt
        · have := (q3 t hge).2.1
          rw [hO] at this; cases this
      exact ⟨x, by rw [upd_ne _ _ (fun e' => ht0 e'.symm)]; exact q1, q2, fun b hb => ⟨(q3 b hb).1, (hOo b (by omega)).trans (q3 b hb).2.1, by rw [upd_ne _ _ (by omega)]; exact (q3 b hb).2.2⟩⟩
    · have hbt : b ≠ t := fun e' => by subst e'; rw [upd_same] at hc; cases hc
      rw [upd_ne _ _ hbt] at hc
      obtain ⟨g', T, vs, e1, e2, e3, e4⟩ := h.o.box b cs hb hc
      exact ⟨g', T, vs, e1, (m5 g' fun e' => hβ b (e' ▸ e1)).trans e2, e3.le hle, e4⟩
    · have := h.o.bnew b g' hb
      exact ⟨this.1, by show _ < (E.w.setCells g (n * sz) news).heap.size; rw [m4]; exact this.2.1, this.2.2⟩
    · rcases hf with hf | ⟨rfl, _⟩
      · exact h.o.bF b g' i hb hf
      · exact hβ b hb
    · by_cases hst : s = t
      · subst hst
        rw [upd_same] at hk
        injection hk with hk1 hk2
        subst hk1 hk2
        refine ⟨_, c, hnew, hnc, hcm, .inr ⟨g, cur', sz, rfl, k1, hsz, by rw [k2]; exact hcur, hg, fun i hf => ?_, hβ, fun t' n' e' o' c' ht' hrow' ho' hc' => ?_⟩⟩
        · rcases hf with hf | ⟨_, hf⟩
          · have h1 := hF i hf
            have : n * sz ≤ (n + m) * sz := Nat.mul_le_mul_right sz (by omega)
            omega
          · exact hf
        · apply Classical.byContradiction
          intro hne
          rw [upd_ne _ _ hne] at hrow'
          rw [hOo t' hne] at ho'
          exact hne (hdis t' n' e' o' c' ht' hrow' ho' hc')
      · rw [upd_ne _ _ hst] at hk
        obtain ⟨A, c2, f1, f2, f3, f4⟩ := h.o.own s k e' hs hk
        refine ⟨A, c2, (hOo s hst).trans f1, f2, f3, ?_⟩
        by_cases hfull : c2 = k
        · exact .inl hfull
        rcases f4 with f4 | ⟨g', cu, sz', p1, p2, p3, p4, p5, p6, p7, p8⟩
        · exact .inl f4
        · have hgg : g' ≠ g := fun e'' => by
            subst e''
            rw [p1] at f1
            exact hst (hdis s k e' 0 c2 hs hk f1 (by omega))
          refine .inr ⟨g', cu, sz', p1, (m5 g' hgg).trans p2, p3, p4, p5, fun i hf => ?_, p7, fun t' n' e'' o' c' ht' hrow' ho' hc' => ?_⟩
          · rcases hf with hf | ⟨e'', _⟩
            · exact p6 i hf
            · exact absurd e'' hgg
          · by_cases htt : t' = t
            · subst htt
              rw [hnew] at ho'
              injection ho' with ho'
              injection ho' with ho'
              injection ho' with ho' _
              injection ho' with ho'
              injection ho' with ho' _
              exact absurd ho'.symm hgg
            · rw [upd_ne _ _ htt] at hrow'
              rw [hOo t' htt] at ho'
              exact p8 t' n' e'' o' c' ht' hrow' ho' hc'
end
end Go.Proofs.YtamllmoakgnjoaaDoor
/- The steps of the machine of plain values that read or write boxes, or make memory, are the model's; no program is named here. -/
namespace Go.Proofs.YtamllmoakgnjoaaDoor
open Go.RowKit
section
variable {C : Ctx} {w0 : World} {pb : Nat → Option Nat} {F0 : Nat → Nat → Prop} {hp : Nat → HC} {E : Env}
/-- What holds behind an operation's step. -/
def After (C : Ctx) (w0 : World) (pb : Nat → Option Nat) (F0 : Nat → Nat → Prop) (hp : Nat → HC) (E : Env) (e : Eff) (z : Value) (w' : World) : Prop :=
  ∃ E', E'.w = w' ∧ HR C w0 pb F0 (applyW hp e.wr) E' ∧ E.le E' ∧ Rep E' e.v z
theorem After.quiet (h : HR C w0 pb F0 hp E) {p : PV} {rd : List Nat} {z : Value} (hr : Rep E p z) : After C w0 pb F0 hp E ⟨p, [], rd⟩ z E.w := ⟨E, rfl, h, Env.le.refl E, hr⟩
theorem cells_of_part {P : Program} {w : World} {g b0 off : Nat} {t : TypeId} {cs : List PV} {val : Nat → Value} {p : PV} (hc : ∀ i, i < cs.length → w.cell? ⟨g, b0 + i, none⟩ = some (val i)) (hr : ∀ i, i < cs.length → Rep E (cs.getD i .top) (val i))
    (h : vcPart P t cs off (· = p)) : ∃ z, (Instr.loadAt t (.pointer (some ⟨g, b0 + off, none⟩))).run P w = .ok z w ∧ Rep E p z := by
  unfold vcPart at h
  simp only [force_eq] at h
  split at h
  · rename_i n h1 h2
    obtain ⟨h3, rfl⟩ := h
    have hl := run_loadCells_list (P := P) w ⟨g, b0 + off, none⟩ ((List.range n).map fun j => val (off + j)) (fun j v hj => by
      have hjn : j < n := by simpa using (List.getElem?_eq_some_iff.1 hj).1
      rw [List.getElem?_map, List.getElem?_range hjn] at hj
      simp only [Option.map_some, Option.some.injEq] at hj
      rw [Addr.add_mid, Nat.add_assoc, hc (off + j) (by omega), hj])
    rw [List.length_map, List.length_range] at hl
    refine ⟨.agg ((List.range n).map fun j => val (off + j)).toArray, ?_, .agg _ _ (by rw [sub_len h3]; simp) fun i hi => ?_⟩
    · simp only [Instr.loadAt, Instr.sureAddr, loadVar, Sem.run_bind, Sem.run_pure, Result.andThen_ok, run_isAgg h1, run_sizeOf h2, if_true, hl]
    · rw [sub_len h3] at hi
      rw [sub_get h3 hi]
      have := hr (off + i) (by omega)
      simpa [Array.getD, hi] using this
  · rename_i n h1 h2
    obtain ⟨h3, rfl⟩ := h
    refine ⟨val off, ?_, hr off h3⟩
    simp [Instr.loadAt, Instr.sureAddr, loadVar, run_isAgg h1, hc off h3]
  · exact h.elim
/-- A slice or a string, as what is appended. -/
theorem src_sound {P : Program} {tx : TypeId} {x : PV} {y : Value} {es : List (List PV)} {sz : Nat} (r : Rep E x y) (h : srcOf P tx x = some es) (hw : ∀ i, i < es.length → (es.getD i []).length = sz) (h0 : 0 < sz) :
    ∃ news : List Value, Src P sz tx y es.length news E.w ∧ ∀ i j, i < es.length → j < sz → Rep E.inn ((es.getD i []).getD j .top) (news.getD (i * sz + j) undef) := by
  unfold srcOf at h
  split at h
  · rename_i k es' e' hu
    injection h with h
    subst h
    cases r with
    | sl _ _ A c g o sz' val h1 h2 h3 h4 h5 h6 hc hr =>
      by_cases hne : es' = []
      · subst hne
        refine ⟨[], ?_, fun i j hi => by simp at hi⟩
        refine ⟨.inl ⟨e', hu⟩, fun _ => rfl, ?_, ?_, by simp, fun u hu => by cases hu⟩
        · cases A with
          | none => exact run_firstCells_none _ _ _ _ _
          | some a => simp [Builtin.firstCells, loadCells, loadCellsFrom]
        · cases A with
          | none => exact run_firstCells_none _ _ _ _ _
          | some a => simp [Builtin.firstCells, loadCells, loadCellsFrom]
      · have hpos : 0 < es'.length := List.length_pos_iff.2 hne
        have e : sz' = sz := (h5 0 hpos).symm.trans (hw 0 hpos)
        subst e
        have hA := h6 hne
        subst hA
        refine ⟨(List.range (es'.length * sz')).map fun q => val (q / sz') (q % sz'), ?_, fun i j hi hj => ?_⟩
        · refine Src.ofSlice E.w hu ⟨g, o, none⟩ es'.length c _ (by simp) (fun q u hq => ?_) fun u hu => ?_
          · have hqn : q < es'.length * sz' := by simpa using (List.getElem?_eq_some_iff.1 hq).1
            rw [List.getElem?_map, List.getElem?_range hqn] at hq
            simp only [Option.map_some, Option.some.injEq] at hq
            have hi : q / sz' < es'.length := (Nat.div_lt_iff_lt_mul h0).2 hqn
            have hj : q % sz' < sz' := Nat.mod_lt _ h0
            have := (hc _ _ hi hj).1
            rw [show o + q / sz' * sz' + q % sz' = o + q by rw [Nat.add_assoc, Nat.mul_comm, Nat.div_add_mod]] at this
            rw [Addr.add_mid, this, hq]
          · obtain ⟨q, hq, rfl⟩ := List.mem_map.1 hu
            have hqn : q < es'.length * sz' := by simpa using hq
            exact (hc _ _ ((Nat.div_lt_iff_lt_mul h0).2 hqn) (Nat.mod_lt _ h0)).2.2
        · have hq := idx_lt hi hj
          have e1 : (i * sz' + j) / sz' = i := by
            rw [Nat.add_comm, Nat.add_mul_div_right _ _ h0, Nat.div_eq_of_lt hj, Nat.zero_add]
          have e2 : (i * sz' + j) % sz' = j := by rw [Nat.add_comm, Nat.add_mul_mod_self_right, Nat.mod_eq_of_lt hj]
          simp only [List.getD, List.getElem?_map, List.getElem?_range hq, Option.map_some, Option.getD_some, e1, e2]
          have := hr i j hi hj
          simpa [List.getD] using this
  · rename_i s hu
    injection h with h
    subst h
    have := r.v_eq
    subst this
    have hl : (strCells s).length = s.size := by simp [strCells]
    have hone : ∀ i, i < (strCells s).length → (strCells s).getD i [] = [.v (.int .u8 (s.data.toList.getD i 0).toNat)] := fun i hi => by
      have hi' : i < s.data.toList.length := by simpa [strCells] using hi
      simp only [strCells, List.getD, List.getElem?_map, List.getElem?_eq_getElem hi', Option.map_some, Option.getD_some]
    by_cases hne : (strCells s).length = 0
    · have hs0 : s.size = 0 := by omega
      have hb : byteCells s = [] := List.eq_nil_of_length_eq_zero (by rw [byteCells_length]; exact hs0)
      have := Src.ofString E.w hu s
      refine ⟨[], ⟨this.kind, fun w' => by rw [this.len w', hl], ?_, ?_, by simp [hne], fun u hu => by cases hu⟩, fun i j hi => by omega⟩
      · rw [hl, hs0]; simp [Builtin.firstCells]
      · rw [hl, hs0]; simp [Builtin.firstCells]
    · have e : sz = 1 := by
        have h1 := hw 0 (by omega)
        rw [hone 0 (by omega)] at h1
        exact h1.symm
      subst e
      refine ⟨byteCells s, by rw [hl]; exact Src.ofString E.w hu s, fun i j hi hj => ?_⟩
      have hj0 : j = 0 := by omega
      subst hj0
      rw [hone i hi]
      have hi' : i < s.data.toList.length := by simpa [strCells] using hi
      have e2 : (byteCells s).getD (i * 1 + 0) undef = .int .u8 (s.data.toList.getD i 0).toNat := by
        simp only [byteCells, Nat.mul_one, Nat.add_zero, List.getD, List.getElem?_map, List.getElem?_eq_getElem hi', Option.map_some, Option.getD_some]
      rw [e2]
      exact .v _
  · cases h
theorem getD_app_left {α : Type} (a b : List α) (d : α) {i : Nat} (h : i < a.length) : (a ++ b).getD i d = a.getD i d := by simp only [List.getD]; rw [List.getElem?_append_left h]
theorem getD_app_right {α : Type} (a b : List α) (d : α) {i : Nat} (h : a.length ≤ i) : (a ++ b).getD i d = b.getD (i - a.length) d := by simp only [List.getD]; rw [List.getElem?_append_right h]
theorem zeroCells_size (z : Array Value) (n : Nat) : (Builtin.zeroCells z n).size = n * z.size := by simp [Builtin.zeroCells]
/-- A slice goes on in a new block. -/
theorem grow_row (h : HR C w0 pb F0 hp E) {t : Nat} (ht0 : t ≠ 0) {hp' : Nat → HC} {sz : Nat} {e : TypeId} {es es' : List (List PV)} {i : TypeInfo} {zv : Value} {tT tx ty : TypeId} {base : Option Addr} {c : Nat} {y : Value}
    (hu : C.P.underlying tT = some (.slice e)) (hi : C.P.info? e = some i) (hz : i.zero = some zv) (hsz : i.size = sz) (hzs : zv.cells.size = sz) (_ : 0 < sz) (hw : ∀ q, q < es.length → (es.getD q []).length = sz) (hw' : ∀ q, q < es'.length → (es'.getD q []).length = sz)
    {olds news : List Value} (ho : Src C.P sz tT (.slice base es.length c) es.length olds E.w) (hro : ∀ q j, q < es.length → j < sz → Rep E.inn ((es.getD q []).getD j .top) (olds.getD (q * sz + j) undef))
    (hs : Src C.P sz tx y es'.length news E.w) (hrn : ∀ q j, q < es'.length → j < sz → Rep E.inn ((es'.getD q []).getD j .top) (news.getD (q * sz + j) undef))
    (hg : c < es.length + es'.length) (hmax : es.length + es'.length ≤ maxLen) (hby : (es.length + es'.length) * i.bytes ≤ 140737488355328)
    (hnx : ∃ m, hp' 0 = .num m ∧ 0 < m ∧ t < m ∧ ∀ b, m ≤ b → E.β b = none ∧ E.O b = none ∧ hp' b = .none) (hrow : hp' t = .row (es.length + es'.length) e) (hother : ∀ b, b ≠ 0 → b ≠ t → hp' b = hp b) (hold : ∀ v k, E.O t = some (v, k) → k < es.length + es'.length) :
    ∃ z w', (Builtin.append_ #[tT, tx] ty #[.slice base es.length c, y]).run C.P E.w = .ok z w' ∧ ∃ E', E'.w = w' ∧ HR C w0 pb F0 hp' E' ∧ E.le E' ∧ Rep E' (.sl (.own t) (es ++ es')) z := by
  have hm' := hmax
  simp only [maxLen] at hm'
  have hrun := run_append_grow_src (P := C.P) E.w tT tx ty e i zv hu hi hz base es.length c olds (by rw [hsz]; exact ho.cellsD) y es'.length news (by rw [hsz]; exact hs) hg (by omega) (growslice_fits hg hby)
  refine ⟨_, _, hrun, ?_⟩
  obtain ⟨hd, hled⟩ := h.drew
  have hcap := grownCap_ge E.w (es.length + es'.length) c e
  have hcapm := grownCap_le_maxLen E.w (es.length + es'.length) c e hmax
  generalize grownCap E.w (es.length + es'.length) c e = cap at *
  have hol := ho.newsLen
  have hnl := hs.newsLen
  have hcs : ((olds ++ news).toArray ++ Builtin.zeroCells zv.cells (cap - (es.length + es'.length))).size = cap * sz := by
    rw [Array.size_append, List.size_toArray, List.length_append, zeroCells_size, hol, hnl, hzs, ← Nat.add_mul, ← Nat.add_mul]
    congr 1
    omega
  obtain ⟨hR, hle⟩ := HR.newrow (t := t) hd ht0 (hp' := hp') (n := es.length + es'.length) (c := cap) (sz := sz) (e := e) _ (by simp [szP, hi, hsz]) hcs hcap hcapm hnx hrow hother hold
  refine ⟨_, rfl, hR, hled.trans hle, ?_⟩
  have hflat : ∀ q, q < (es.length + es'.length) * sz → ((olds ++ news).toArray ++ Builtin.zeroCells zv.cells (cap - (es.length + es'.length))).getD q undef = (olds ++ news).getD q undef := fun q hq => by
    have hq' : q < (olds ++ news).length := by rw [List.length_append, hol, hnl, ← Nat.add_mul]; exact hq
    simp only [Array.getD_eq_getD_getElem?]
    rw [Array.getElem?_append_left (by simpa using hq')]
    simp [List.getD]
  have hge : ∀ q, q < es.length → (es ++ es').getD q [] = es.getD q [] := fun q hq => by simp only [List.getD]; rw [List.getElem?_append_left hq]
  have hge' : ∀ q, q < es'.length → (es ++ es').getD (es.length + q) [] = es'.getD q [] := fun q hq => by simp only [List.getD]; rw [List.getElem?_append_right (by omega)]; congr 2; omega
  refine rep_row (sz := sz) (by simp) (fun q hq => ?_) hcap hcapm (fun q => (olds ++ news).getD q undef) (fun q hq => ⟨?_, Or.inr ⟨rfl, hq⟩, ?_⟩) (fun q j hq hj => ?_) _ (fun e => by cases e) (fun s hs' => ?_)
  · by_cases hlt : q < es.length
    · rw [hge q hlt]; exact hw q hlt
    · rw [show q = es.length + (q - es.length) by omega, hge' _ (by omega)]; exact hw' _ (by omega)
  · have := Blk.getD (Blk.new E.w.drew e ((olds ++ news).toArray ++ Builtin.zeroCells zv.cells (cap - (es.length + es'.length)))) (i := q) (by
      rw [hcs]; exact Nat.lt_of_lt_of_le hq (Nat.mul_le_mul_right sz hcap))
    rw [hflat q hq] at this
    exact this
  · have hq' : q < (olds ++ news).length := by rw [List.length_append, hol, hnl, ← Nat.add_mul]; exact hq
    simp only [List.getD, List.getElem?_eq_getElem hq', Option.getD_some]
    rcases List.mem_append.1 (List.getElem_mem hq') with hm | hm
    · exact ho.one _ hm
    · exact hs.one _ hm
  · have hin : E.inn.le (Env.inn ⟨E.w.drew.alloc (.cells ((olds ++ news).toArray ++ Builtin.zeroCells zv.cells (cap - (es.length + es'.length))) e), fun g i => E.F g i ∨ (g = E.w.drew.heap.size ∧ i < (es.length + es'.length) * sz), E.β, fun b => if b = t then some (.slice (some ⟨E.w.drew.heap.size, 0, none⟩) (es.length + es'.length) cap, es.length + es'.length) else E.O b⟩) := (hled.trans hle).inn
    by_cases hlt : q < es.length
    · rw [hge q hlt]
      have := (hro q j hlt hj).le hin
      rw [getD_app_left _ _ _ (by rw [hol]; exact idx_lt hlt hj)]
      exact this
    · obtain ⟨r, rfl⟩ : ∃ r, q = es.length + r := ⟨q - es.length, by omega⟩
      rw [hge' r (by omega)]
      have := (hrn r j (by omega) hj).le hin
      rw [getD_app_right _ _ _ (by rw [hol, Nat.add_mul]; omega)]
      rw [show (es.length + r) * sz + j - olds.length = r * sz + j by rw [hol, Nat.add_mul]; omega]
      exact this
  · injection hs' with hs'
    subst hs'
    exact ⟨_, _, if_pos rfl, Nat.le_refl _, fun _ => rfl⟩
end
end Go.Proofs.YtamllmoakgnjoaaDoor
/- Each step of the machine of plain values is the model's: append, slice literals, make, calls; all together; no program is named here. -/
namespace Go.Proofs.YtamllmoakgnjoaaDoor
open Go.RowKit
section
variable {C : Ctx} {w0 : World} {pb : Nat → Option Nat} {F0 : Nat → Nat → Prop} {hp : Nat → HC} {E : Env}
theorem append_sound (h : HR C w0 pb F0 hp E) {tT tx ty : TypeId} {s x : PV} {ys yx : Value} (rs : Rep E s ys) (rx : Rep E x yx) {e : Eff} (hv : vcAppend C.P tT tx s x hp (· = e)) :
    ∃ z w', (Builtin.append_ #[tT, tx] ty #[ys, yx]).run C.P E.w = .ok z w' ∧ After C w0 pb F0 hp E e z w' := by
  unfold vcAppend at hv
  split at hv
  case h_2 => exact hv.elim
  rename_i te es' hu hsrc
  split at hv
  case h_2 => exact hv.elim
  rename_i sz by_ zv hsz hby hz
  cases s with
  | sl k es =>
    obtain ⟨rr, hrr, ⟨hzs, h0, hw, hw', hmax, hb⟩, hk⟩ := hv
    subst hrr
    rw [List.length_append] at hk
    cases hi : C.P.info? te with
    | none => simp [szP, hi] at hsz
    | some i =>
      have hisz : i.size = sz := by simpa [szP, hi] using hsz
      have hiby : i.bytes = by_ := by simpa [bytesP, hi] using hby
      have hiz : i.zero = some zv := by simpa [hi] using hz
      obtain ⟨news, hs, hrn⟩ := src_sound rx hsrc hw' h0
      have rs0 := rs
      cases rs with
      | sl _ _ A c g o sz' val g1 g2 g3 g4 g5 g6 hc hr =>
        obtain ⟨olds, ho, hro⟩ := src_sound (P := C.P) (tx := tT) (x := .sl k es) rs0 (by simp [srcOf, hu]) hw h0
        have nothing : es' = [] → (Builtin.append_ #[tT, tx] ty #[.slice A es.length c, yx]).run C.P E.w = .ok (.slice A es.length c) E.w := fun e0 => by
          subst e0
          have hs0 := hs
          rw [show news = [] from List.eq_nil_of_length_eq_zero (by rw [hs.newsLen]; simp)] at hs0
          exact run_append_nothing E.w tT tx ty te i hu hi A es.length c g1 yx (by rw [hisz]; exact hs0)
        cases k with
        | any => exact hk.elim
        | full =>
          have hcn := g3 rfl
          subst hcn
          simp only at hk
          split at hk
          case h_2 => exact hk.elim
          rename_i m hm
          subst hk
          obtain ⟨m', e0, hpos, hfresh⟩ := h.o.nx
          rw [hm] at e0
          injection e0 with e0
          subst e0
          have hhp : ∀ b, b ≠ 0 → b ≠ m → upd (upd hp 0 (.num (m + 1))) m (.row (es.length + es'.length) te) b = hp b := fun b h0 h1 => by rw [upd_ne _ _ h1, upd_ne _ _ h0]
          have hnx : ∃ m1, upd (upd hp 0 (.num (m + 1))) m (.row (es.length + es'.length) te) 0 = .num m1 ∧ 0 < m1 ∧ m < m1 ∧ ∀ b, m1 ≤ b → E.β b = none ∧ E.O b = none ∧ upd (upd hp 0 (.num (m + 1))) m (.row (es.length + es'.length) te) b = .none :=
            ⟨m + 1, by rw [upd_ne _ _ (by omega), upd_same], by omega, by omega, fun b hb => ⟨(hfresh b (by omega)).1, (hfresh b (by omega)).2.1, by rw [hhp b (by omega) (by omega)]; exact (hfresh b (by omega)).2.2⟩⟩
          by_cases hne : es' = []
          · refine ⟨_, _, nothing hne, ?_⟩
            subst hne
            have hOm := (hfresh m (Nat.le_refl _)).2.1
            let E' : Env := ⟨E.w, E.F, E.β, fun b => if b = m then some (.slice A es.length es.length, es.length) else E.O b⟩
            have hOn : E'.O m = some (.slice A es.length es.length, es.length) := if_pos rfl
            have hOo : ∀ b, b ≠ m → E'.O b = E.O b := fun b hb => if_neg hb
            have hle : E.le E' := ⟨fun _ _ h => h, fun _ _ _ => rfl, fun _ _ h => h, fun b v n hv => by
              have hb : b ≠ m := fun e => by subst e; rw [hOm] at hv; cases hv
              exact ⟨v, n, (hOo b hb).trans hv, Nat.le_refl _, fun _ => rfl⟩⟩
            refine ⟨E', rfl, ⟨h.b.next hle rfl rfl rfl (Nat.le_refl _) (fun _ _ _ => rfl) (fun _ _ hf => .inl hf), ?_⟩, hle, ?_⟩
            · simp only [applyW, List.length_nil, Nat.add_zero] at hhp hnx ⊢
              refine ⟨?_, fun b cs hb hcs => ?_, fun b g hb => h.o.bnew b g hb, h.o.binj, h.o.bF, fun t n e' ht hrow => ?_⟩
              · obtain ⟨m1, q1, q2, q3, q4⟩ := hnx
                exact ⟨m1, q1, q2, fun b hb => ⟨(q4 b hb).1, (hOo b (by omega)).trans (q4 b hb).2.1, (q4 b hb).2.2⟩⟩
              · have hbm : b ≠ m := fun e => by subst e; rw [upd_same] at hcs; cases hcs
                rw [hhp b hb hbm] at hcs
                obtain ⟨g, T, vs, e1, e2, e3, e4⟩ := h.o.box b cs hb hcs
                exact ⟨g, T, vs, e1, e2, e3.le hle, e4⟩
              · by_cases htm : t = m
                · subst htm
                  rw [upd_same] at hrow
                  injection hrow with hr1 hr2
                  subst hr1 hr2
                  exact ⟨A, es.length, hOn, Nat.le_refl _, g2, .inl rfl⟩
                · rw [hhp t ht htm] at hrow
                  obtain ⟨A', c', f1, f2, f3, f4⟩ := h.o.own t n e' ht hrow
                  refine ⟨A', c', (hOo t htm).trans f1, f2, f3, ?_⟩
                  rcases f4 with f4 | ⟨g', cur, sz', p1, p2, p3, p4, p5, p6, p7, p8⟩
                  · exact .inl f4
                  · refine .inr ⟨g', cur, sz', p1, p2, p3, p4, p5, p6, p7, fun t' n' e'' o' c'' ht' hrow' ho' hc' => ?_⟩
                    by_cases htm' : t' = m
                    · subst htm'
                      rw [hOn] at ho'
                      injection ho' with ho'
                      injection ho' with ho' hn'
                      injection ho' with _ _ hc''
                      omega
                    · rw [hhp t' ht' htm'] at hrow'
                      rw [hOo t' htm'] at ho'
                      exact p8 t' n' e'' o' c'' ht' hrow' ho' hc'
            · rw [List.append_nil]
              refine .sl _ es A es.length g o sz' val (Nat.le_refl _) g2 (fun e => by cases e) (fun t ht => ?_) g5 g6 hc (fun i j hi hj => (hr i j hi hj).le hle.inn)
              injection ht with ht
              subst ht
              exact ⟨_, _, hOn, Nat.le_refl _, fun _ => rfl⟩
          · have hpos' : 0 < es'.length := List.length_pos_iff.2 hne
            obtain ⟨z, w', r1, r2⟩ := grow_row (ty := ty) h (by omega) (hp' := upd (upd hp 0 (.num (m + 1))) m (.row (es.length + es'.length) te)) hu hi hiz hisz hzs h0 hw hw' ho hro hs hrn (by omega) hmax (by rw [hiby]; exact hb) hnx (by rw [upd_same]) hhp
              (fun v k hk => by rw [(hfresh m (Nat.le_refl _)).2.1] at hk; cases hk)
            exact ⟨z, w', r1, r2⟩
        | own t =>
          obtain ⟨ht0, hrow, rfl⟩ := hk
          obtain ⟨A', c', f1, f2, f3, f4⟩ := h.o.own t _ te ht0 hrow
          obtain ⟨v, n0, q1, q2, q3⟩ := g4 t rfl
          rw [f1] at q1
          injection q1 with q1
          injection q1 with q1 q1'
          subst q1'
          have q3 := q3 rfl
          rw [← q1] at q3
          injection q3 with q3 _ q4
          subst q3 q4
          have htm : ∃ m, hp 0 = .num m ∧ 0 < m ∧ t < m ∧ ∀ b, m ≤ b → E.β b = none ∧ E.O b = none ∧ hp b = .none := by
            obtain ⟨m, e1, e2, e3⟩ := h.o.nx
            refine ⟨m, e1, e2, ?_, e3⟩
            rcases Nat.lt_or_ge t m with hlt | hge
            · exact hlt
            · have := (e3 t hge).2.1
              rw [f1] at this; cases this
          by_cases hne : es' = []
          · refine ⟨_, _, nothing hne, ?_⟩
            subst hne
            have hsame : upd hp t (.row (es.length + 0) te) = hp := by
              funext b
              by_cases hb : b = t
              · subst hb; rw [upd_same, hrow]; rfl
              · rw [upd_ne _ _ hb]
            refine ⟨E, rfl, ?_, Env.le.refl E, ?_⟩
            · simp only [applyW, List.length_nil]
              rw [hsame]; exact h
            · rw [List.append_nil]; exact rs0
          · have hpos' : 0 < es'.length := List.length_pos_iff.2 hne
            by_cases hroom : es.length + es'.length ≤ c'
            · rcases f4 with f4 | ⟨g', cur, sz'', p1, p2, p3, p4, p5, p6, p7, p8⟩
              · omega
              · have hsz2 : sz'' = sz := Option.some.inj (p3.symm.trans hsz)
                subst hsz2
                subst p1
                have hnl := hs.newsLen
                obtain ⟨hR, hle⟩ := h.approom ht0 hrow f1 p2 p3 p4 p5 p6 p7 p8 hpos' hroom f3 news hnl
                have hfit : ∀ j, j < news.length → es.length * sz'' + j < cur.size := fun j hj => by
                  rw [hnl] at hj
                  have : (es.length + es'.length) * sz'' ≤ c' * sz'' := Nat.mul_le_mul_right _ hroom
                  rw [Nat.add_mul] at this
                  omega
                have hrun := run_append_room_src (P := C.P) E.w tT tx ty te i hu hi g' 0 es.length c' yx es'.length news (by rw [hisz]; exact hs) hroom
                  (fun j hj => by rw [hisz, Nat.zero_add, p2.getD (hfit j hj)]; rfl) (fun j hj => p2.frozen _)
                rw [hisz, Nat.zero_add] at hrun
                refine ⟨_, _, hrun, _, rfl, hR, hle, ?_⟩
                obtain ⟨cur', k1, k2, k3⟩ := blk_setCells news (es.length * sz'') E.w cur p2 (by
                  rw [hnl, ← Nat.add_mul, p4]; exact Nat.mul_le_mul_right _ hroom)
                have hge : ∀ q, q < es.length → (es ++ es').getD q [] = es.getD q [] := fun q hq => getD_app_left _ _ _ hq
                have hge' : ∀ q, (es ++ es').getD (es.length + q) [] = es'.getD q [] := fun q => by rw [getD_app_right _ _ _ (by omega)]; congr 1; omega
                have hsz' : ∀ q, q < es.length → sz' = sz'' := fun q hq => (g5 q hq).symm.trans (hw q hq)
                refine rep_row (sz := sz'') (by simp) (fun q hq => ?_) hroom f3 (fun q => cur'.getD q undef) (fun q hq => ⟨?_, Or.inr ⟨rfl, hq⟩, ?_⟩) (fun q j hq hj => ?_) _ (fun e => by cases e) (fun s hs' => ?_)
                · by_cases hlt : q < es.length
                  · rw [hge q hlt]; exact hw q hlt
                  · rw [show q = es.length + (q - es.length) by omega, hge' _]; exact hw' _ (by omega)
                · exact Blk.getD k1 (by rw [k2, p4]; exact Nat.lt_of_lt_of_le hq (Nat.mul_le_mul_right _ hroom))
                · rw [k3 q]
                  by_cases hin : es.length * sz'' ≤ q ∧ q < es.length * sz'' + news.length
                  · rw [if_pos hin]
                    have : q - es.length * sz'' < news.length := by omega
                    simp only [List.getD, List.getElem?_eq_getElem this, Option.getD_some]
                    exact hs.one _ (List.getElem_mem this)
                  · rw [if_neg hin]
                    have hq2 : q < es.length * sz'' := by rw [Nat.add_mul] at hq; omega
                    have hiq : q / sz'' < es.length := (Nat.div_lt_iff_lt_mul h0).2 hq2
                    have hjq : q % sz'' < sz'' := Nat.mod_lt _ h0
                    have e1 := hsz' _ hiq
                    subst e1
                    obtain ⟨x1, x2, x3⟩ := hc _ _ hiq hjq
                    have hA := g6 (fun e => by rw [e] at hiq; simp at hiq)
                    injection hA with hA
                    injection hA with hA1 hA2 _
                    subst hA1 hA2
                    rw [show 0 + q / sz' * sz' + q % sz' = q by rw [Nat.zero_add, Nat.mul_comm, Nat.div_add_mod]] at x1
                    rw [p2.getD (by rw [p4]; exact Nat.lt_of_lt_of_le hq2 (Nat.mul_le_mul_right _ f2))] at x1
                    injection x1 with x1
                    rw [x1]
                    exact x3
                · rw [k3]
                  by_cases hlt : q < es.length
                  · rw [hge q hlt, if_neg (by have := idx_lt hlt hj; omega)]
                    have e1 := hsz' _ hlt
                    subst e1
                    obtain ⟨x1, x2, x3⟩ := hc _ _ hlt hj
                    have hA := g6 (fun e => by rw [e] at hlt; simp at hlt)
                    injection hA with hA
                    injection hA with hA1 hA2 _
                    subst hA1 hA2
                    rw [Nat.zero_add, p2.getD (by rw [p4]; exact Nat.lt_of_lt_of_le (idx_lt hlt hj) (Nat.mul_le_mul_right _ f2))] at x1
                    injection x1 with x1
                    rw [x1]
                    exact (hr _ _ hlt hj).le hle.inn
                  · obtain ⟨r, rfl⟩ : ∃ r, q = es.length + r := ⟨q - es.length, by omega⟩
                    rw [hge' r, if_pos (by rw [hnl, Nat.add_mul]; have := idx_lt (show r < es'.length by omega) hj; omega)]
                    rw [show (es.length + r) * sz'' + j - es.length * sz'' = r * sz'' + j by rw [Nat.add_mul]; omega]
                    exact (hrn r j (by omega) hj).le hle.inn
                · injection hs' with hs'
                  subst hs'
                  exact ⟨_, _, if_pos rfl, Nat.le_refl _, fun _ => rfl⟩
            · obtain ⟨z, w', r1, r2⟩ := grow_row (ty := ty) h ht0 (hp' := upd hp t (.row (es.length + es'.length) te)) hu hi hiz hisz hzs h0 hw hw' ho hro hs hrn (by omega) hmax (by rw [hiby]; exact hb)
                (by
                  obtain ⟨m, e1, e2, e3, e4⟩ := htm
                  exact ⟨m, by rw [upd_ne _ _ (fun e => ht0 e.symm)]; exact e1, e2, e3, fun b hb => ⟨(e4 b hb).1, (e4 b hb).2.1, by rw [upd_ne _ _ (by omega)]; exact (e4 b hb).2.2⟩⟩)
                (by rw [upd_same]) (fun b _ hb => upd_ne _ _ hb) (fun v k hk => by
                  rw [f1] at hk
                  injection hk with hk
                  injection hk with _ hk
                  omega)
              exact ⟨z, w', r1, r2⟩
  | _ => exact hv.elim
end
end Go.Proofs.YtamllmoakgnjoaaDoor
/- Each step of the machine of plain values is the model's: slice literals, make, boxes, calls; all together; no program is named here. -/
namespace Go.Proofs.YtamllmoakgnjoaaDoor
open Go.RowKit
section
variable {C : Ctx} {w0 : World} {pb : Nat → Option Nat} {F0 : Nat → Nat → Prop} {hp : Nat → HC} {E : Env}
theorem Rep.inn_leaf {p : PV} {x : Value} (r : Rep E p x) (h : p.leaf = true) : Rep E.inn p.dem1 x := by
  cases p with
  | v y => exact r.inn_plain1 rfl
  | sl k es => exact r.sl_any.inn_plain1 rfl
  | _ => simp [PV.leaf] at h
theorem flatten_get (sz : Nat) : ∀ (es : List (List PV)), (∀ i, i < es.length → (es.getD i []).length = sz) → es.flatten.length = es.length * sz ∧ ∀ i j, i < es.length → j < sz → es.flatten.getD (i * sz + j) .top = (es.getD i []).getD j .top
  | [], _ => ⟨by simp, fun i j hi => by simp at hi⟩
  | c :: es, h => by
    have hc : c.length = sz := by have := h 0 (by simp); simpa [List.getD] using this
    obtain ⟨h1, h2⟩ := flatten_get sz es (fun i hi => by have := h (i + 1) (by simpa using hi); simpa [List.getD] using this)
    refine ⟨by simp only [List.flatten_cons, List.length_append, h1, hc, List.length_cons, Nat.add_mul]; omega, fun i j hi hj => ?_⟩
    rw [List.flatten_cons]
    cases i with
    | zero =>
      rw [getD_app_left _ _ _ (by omega)]
      simp [List.getD]
    | succ i =>
      rw [getD_app_right _ _ _ (by rw [Nat.add_mul]; omega)]
      rw [show (i + 1) * sz + j - c.length = i * sz + j by rw [Nat.add_mul]; omega]
      have := h2 i j (by simpa using hi) hj
      rw [this]
      simp [List.getD]
/-- Parts that come in order fill all cells, one behind the other. -/
theorem fill_seq (sz : Nat) : ∀ (l : List (Nat × PV)) (k : Nat) (done z : List PV) (es : List (List PV)), seqFrom k l = true → elemsOf sz l = some es → done.length = k * sz → z.length = l.length * sz →
    ∃ fs : List (List PV), fillP (fun i => some (i * sz, sz)) (done ++ z) l = some (done ++ fs.flatten) ∧ fs.length = l.length ∧ es = fs.map (·.map PV.dem1) ∧ (∀ i, i < fs.length → (fs.getD i []).length = sz) ∧ ∀ c ∈ fs, ∀ q ∈ c, PV.leaf q = true
  | [], k, done, z, es, _, he, _, hz => by
    simp only [elemsOf, Option.some.injEq] at he
    subst he
    have : z = [] := List.eq_nil_of_length_eq_zero (by simpa using hz)
    subst this
    exact ⟨[], rfl, rfl, rfl, fun i hi => by simp at hi, fun c hc => by cases hc⟩
  | (i, x) :: l, k, done, z, es, hs, he, hd, hz => by
    simp only [seqFrom, Bool.and_eq_true] at hs
    have hi := Nat.eq_of_beq_eq_true hs.1
    subst hi
    unfold elemsOf at he
    split at he
    case h_2 => cases he
    rename_i cs r hpc hr
    split at he
    case h_2 => cases he
    rename_i hb
    injection he with he
    simp only [Bool.and_eq_true] at hb
    have hlen := Nat.eq_of_beq_eq_true hb.1
    simp only [List.length_cons, Nat.add_mul, Nat.one_mul] at hz
    have hspl : splice (done ++ z) cs (i * sz) = (done ++ cs) ++ z.drop sz := by
      unfold splice
      rw [List.take_append_of_le_length (by omega), List.take_of_length_le (by omega), List.drop_append, List.drop_of_length_le (by omega), List.nil_append]
      rw [show i * sz + cs.length - done.length = sz by omega, List.append_assoc]
    obtain ⟨fs, h1, h2, h3, h4, h5⟩ := fill_seq sz l (i + 1) (done ++ cs) (z.drop sz) r hs.2 hr (by rw [List.length_append, hd, hlen, Nat.add_mul]; omega) (by rw [List.length_drop]; omega)
    refine ⟨cs :: fs, ?_, by simp [h2], by rw [← he, h3]; rfl, fun q hq => ?_, fun c hc => ?_⟩
    · unfold fillP
      simp only [hpc]
      have b1 : Nat.beq cs.length sz = true := hb.1
      have b2 : Nat.ble (i * sz + cs.length) (done ++ z).length = true := by
        rw [Nat.ble_eq, List.length_append]; omega
      simp only [b1, b2]
      rw [hspl, h1, List.flatten_cons, List.append_assoc]
    · cases q with
      | zero => simpa [List.getD] using hlen
      | succ q => have := h4 q (by simpa using hq); simpa [List.getD] using this
    · rcases List.mem_cons.1 hc with rfl | hc
      · exact fun q hq => List.all_eq_true.1 hb.2 q hq
      · exact h5 c hc
theorem buildSlice_sound (h : HR C w0 pb F0 hp E) {t e : TypeId} {len sz : Nat} {z : List PV} {parts : List (Nat × PV)} {vals : Array (Nat × Value)} {es : List (List PV)} (hu : C.P.underlying t = some (.slice e)) (hsz : szP C.P e = some sz) (hz : zeroP C.P e = some z)
    (h0 : 0 < sz) (hzl : z.length = sz) (hlen : len * sz ≤ 16777216) (hpl : parts.length = len) (hl : parts.length = vals.toList.length)
    (hp' : ∀ j, j < parts.length → (parts.getD j (0, .top)).1 = (vals.toList.getD j (0, undef)).1 ∧ Rep E (parts.getD j (0, .top)).2 (vals.toList.getD j (0, undef)).2) (hs : seqFrom 0 parts = true) (he : elemsOf sz parts = some es) :
    ∃ x w', (Instr.buildSlice t len vals).run C.P E.w = .ok x w' ∧ After C w0 pb F0 hp E ⟨.sl .full es, [], []⟩ x w' := by
  obtain ⟨v, hv, hrz⟩ := zero_sound (E := E) hz
  have hvs : v.cells.size = sz := by rw [← hrz.1, hzl]
  obtain ⟨fs, f1, f2, f3, f4, f5⟩ := fill_seq sz parts 0 [] (List.replicate len z).flatten es hs he (by simp) (by simp [hpl, hzl])
  rw [List.nil_append, List.nil_append] at f1
  have hzero : RepC E (List.replicate len z).flatten ((Array.range (len * sz)).map (v.cells[· % v.cells.size]!)) := by
    obtain ⟨g1, g2⟩ := flatten_get sz (List.replicate len z) (fun i hi => by simp at hi; simp [List.getD, hi, hzl])
    refine ⟨by rw [g1]; simp, fun q hq => ?_⟩
    rw [g1, List.length_replicate] at hq
    have hi : q / sz < len := (Nat.div_lt_iff_lt_mul h0).2 hq
    have hj : q % sz < sz := Nat.mod_lt _ h0
    have e1 := g2 (q / sz) (q % sz) (by simpa using hi) hj
    rw [show q / sz * sz + q % sz = q by rw [Nat.mul_comm, Nat.div_add_mod]] at e1
    rw [e1]
    have e2 : (List.replicate len z).getD (q / sz) [] = z := by simp [List.getD, hi]
    rw [e2]
    have := hrz.2 (q % sz) (by omega)
    have h3 : q % sz < v.cells.size := by omega
    simp only [Array.getD, h3, dite_true] at this
    have e4 : v.cells[q % sz]! = v.cells[q % sz] := getElem!_pos v.cells (q % sz) h3
    have e5 : ((Array.range (len * sz)).map (v.cells[· % v.cells.size]!)).getD q undef = v.cells[q % sz] := by
      rw [← e4]; simp [Array.getD, hq, hvs]
    rw [e5]
    exact this
  obtain ⟨vs, k1, k2⟩ := fill_sound _ _ rfl parts vals.toList _ _ _ hzero hl hp' f1
  obtain ⟨g1, g2⟩ := flatten_get sz fs f4
  have hfl : fs.length = len := by omega
  have hvsz : vs.size = len * sz := by rw [← k2.1, g1, hfl]
  have hesl : es.length = len := by rw [f3, List.length_map, hfl]
  have hone : ∀ q, q < len * sz → (vs.getD q undef).oneCell' = true := fun q hq => by
    have := k2.2 q (by rw [g1, hfl]; exact hq)
    refine this.oneCell ?_
    have hq' : q < fs.flatten.length := by rw [g1, hfl]; exact hq
    simp only [List.getD, List.getElem?_eq_getElem hq', Option.getD_some]
    obtain ⟨c, hc, hm⟩ := List.mem_flatten.1 (List.getElem_mem hq')
    exact f5 c hc _ hm
  have hrun : (Instr.buildSlice t len vals).run C.P E.w = .ok (.slice (some ⟨E.w.heap.size, 0, none⟩) len len) (E.w.alloc (.cells vs e)) := by
    unfold Instr.buildSlice
    simp only [Sem.run_bind, run_underlying hu, Result.andThen_ok, run_sizeOf hsz]
    rw [if_neg (show ¬ len * sz > 2 ^ 24 by omega)]
    by_cases hl0 : len * sz = 0
    · have hlen0 : len = 0 := by
        rcases Nat.mul_eq_zero.1 hl0 with h | h
        · exact h
        · omega
      subst hlen0
      have : parts = [] := List.eq_nil_of_length_eq_zero hpl
      subst this
      have hv0 : vals.toList = [] := List.eq_nil_of_length_eq_zero (by simpa using hl.symm)
      have hvs0 : vs = #[] := Array.eq_empty_of_size_eq_zero (by omega)
      subst hvs0
      simp [hv0, Instr.fill, newRow]
      rw [Array.range_zero', List.map_toArray]
      rfl
    · rw [if_neg hl0]
      simp only [Sem.run_bind, Sem.run_pure, hv, Result.andThen_ok]
      rw [k1]
      rfl
  refine ⟨_, _, hrun, ?_⟩
  obtain ⟨hR, hle⟩ := h.grow (E.w.alloc (.cells vs e)) (fun g i => E.F g i ∨ (g = E.w.heap.size ∧ i < len * sz)) rfl rfl rfl (by simp) (fun k hk => Below.heap_alloc _ _ _ hk) (fun _ _ h => .inl h) (fun g i hf => by
    rcases hf with hf | ⟨rfl, _⟩
    · exact .inl hf
    · exact .inr ⟨Nat.le_refl _, by simp⟩)
  refine ⟨_, rfl, hR, hle, ?_⟩
  have hmaxl : len ≤ maxLen := by
    have : len ≤ len * sz := Nat.le_mul_of_pos_right _ h0
    simp only [maxLen]; omega
  refine rep_row (sz := sz) hesl (fun q hq => ?_) (Nat.le_refl _) hmaxl (fun q => vs.getD q undef) (fun q hq => ⟨?_, Or.inr ⟨rfl, hq⟩, hone q hq⟩) (fun i j hi hj => ?_) _ (fun _ => rfl) (fun t ht => by cases ht)
  · rw [f3]
    have hq' : q < fs.length := by omega
    have := f4 q hq'
    simpa [List.getD, hq'] using this
  · exact Blk.getD (Blk.new _ _ _) (by omega)
  · have hi' : i < fs.length := by omega
    have e1 := g2 i j hi' hj
    have hq := idx_lt hi hj
    have r := k2.2 (i * sz + j) (by rw [g1, hfl]; exact hq)
    rw [e1] at r
    have hj' : j < (fs.getD i []).length := by rw [f4 i hi']; exact hj
    have hlf : ((fs.getD i []).getD j .top).leaf = true := by
      have hm : (fs.getD i []) ∈ fs := by simp only [List.getD, List.getElem?_eq_getElem hi', Option.getD_some]; exact List.getElem_mem hi'
      have hm2 : (fs.getD i []).getD j .top ∈ fs.getD i [] := by
        generalize fs.getD i [] = c at *
        simp only [List.getD, List.getElem?_eq_getElem hj', Option.getD_some]; exact List.getElem_mem hj'
      exact f5 _ hm _ hm2
    have r2 := (r.inn_leaf hlf).le hle.inn
    have e3 : (es.getD i []).getD j .top = ((fs.getD i []).getD j .top).dem1 := by
      rw [f3]
      have : (fs.map (·.map PV.dem1)).getD i [] = (fs.getD i []).map PV.dem1 := by simp [List.getD, hi']
      rw [this]
      generalize fs.getD i [] = c at *
      simp [List.getD, hj']
    rw [e3]
    exact r2
theorem makeSlice_sound (h : HR C w0 pb F0 hp E) {t e : TypeId} {sz by_ n k m : Nat} {z : List PV} {x y : PV} {xv yv : Value} (rx : Rep E x xv) (ry : Rep E y yv) (hu : C.P.underlying t = some (.slice e)) (hsz : szP C.P e = some sz) (hby : bytesP C.P e = some by_) (hz : zeroP C.P e = some z) (hm : hp 0 = .num m)
    (hx : lenOk x n) (hy : lenOk y k) (hnk : n ≤ k) (hb : by_ * k ≤ 281474976710656) (hk : k ≤ maxLen) (h0 : 0 < sz) (hzl : z.length = sz) (hlf : z.all PV.leaf = true) :
    ∃ v w', (Instr.makeSlice t xv yv).run C.P E.w = .ok v w' ∧ After C w0 pb F0 hp E ⟨.sl (.own m) (List.replicate n (z.map PV.dem1)), [(0, .num (m + 1)), (m, .row n e)], [0]⟩ v w' := by
  obtain ⟨zv, hv, hrz⟩ := zero_sound (E := E) hz
  have hvs : zv.cells.size = sz := by rw [← hrz.1, hzl]
  have hlen : ∀ {x : PV} {xv : Value} {n : Nat}, Rep E x xv → lenOk x n → xv = .int .i64 (n : Int) := by
    intro x xv n r hl
    cases x with
    | v q =>
      have := r.v_eq
      subst this
      cases xv with
      | int kd i =>
        cases kd with
        | i64 =>
          have hl : i = (n : Int) := hl
          rw [hl]
        | _ => exact False.elim hl
      | _ => exact False.elim hl
    | _ => exact False.elim hl
  rw [hlen rx hx, hlen ry hy]
  cases hi : C.P.info? e with
  | none => simp [szP, hi] at hsz
  | some i =>
    have hisz : i.size = sz := by simpa [szP, hi] using hsz
    have hiby : i.bytes = by_ := by simpa [bytesP, hi] using hby
    have hiz : i.zero = some zv := by
      unfold zeroP at hz
      have hv' := hv E.w
      cases hq : i.zero with
      | none => simp [hi, hq] at hz
      | some u => simp [zeroValue, typeInfo, hi, hq] at hv'; rw [hv']
    have hk' := hk
    simp only [maxLen] at hk'
    have hrun := run_make_const (P := C.P) t e zv sz by_ hu (by simp [hi, hiz, hisz, hiby]) n k hnk hb (by omega) E.w
    refine ⟨_, _, hrun, ?_⟩
    obtain ⟨m', e0, hpos, hfresh⟩ := h.o.nx
    rw [hm] at e0
    injection e0 with e0
    subst e0
    have hhp : ∀ b, b ≠ 0 → b ≠ m → upd (upd hp 0 (.num (m + 1))) m (.row n e) b = hp b := fun b h0 h1 => by rw [upd_ne _ _ h1, upd_ne _ _ h0]
    obtain ⟨hR, hle⟩ := HR.newrow (t := m) h (by omega) (hp' := upd (upd hp 0 (.num (m + 1))) m (.row n e)) (n := n) (c := k) (sz := sz) (e := e) (madeCells zv.cells (k * sz)) hsz (by simp [size_madeCells]) hnk hk
      ⟨m + 1, by rw [upd_ne _ _ (by omega), upd_same], by omega, by omega, fun b hb => ⟨(hfresh b (by omega)).1, (hfresh b (by omega)).2.1, by rw [hhp b (by omega) (by omega)]; exact (hfresh b (by omega)).2.2⟩⟩ (by rw [upd_same]) hhp
      (fun v q hq => by rw [(hfresh m (Nat.le_refl _)).2.1] at hq; cases hq)
    refine ⟨_, rfl, hR, hle, ?_⟩
    have hmade : ∀ q, q < k * sz → (madeCells zv.cells (k * sz)).getD q undef = zv.cells.getD (q % sz) undef := fun q hq => by
      have : q % sz < zv.cells.size := by rw [hvs]; exact Nat.mod_lt _ h0
      have e4 : zv.cells[q % sz]! = zv.cells[q % sz] := getElem!_pos zv.cells (q % sz) this
      have e5 : (madeCells zv.cells (k * sz)).getD q undef = zv.cells[q % sz]! := by simp [madeCells, Array.getD, hq, hvs]
      rw [e5, e4]
      simp only [Array.getD, this, dite_true]
      rfl
    have hnk' : n * sz ≤ k * sz := Nat.mul_le_mul_right sz hnk
    refine rep_row (sz := sz) (by simp) (fun q hq => by simp [List.getD, hq, hzl]) hnk hk (fun q => (madeCells zv.cells (k * sz)).getD q undef) (fun q hq => ⟨?_, Or.inr ⟨rfl, hq⟩, ?_⟩) (fun i j hi hj => ?_) _ (fun e => by cases e) (fun s hs' => ?_)
    · exact Blk.getD (Blk.new _ _ _) (by rw [size_madeCells]; omega)
    · rw [hmade q (by omega)]
      have hj : q % sz < z.length := by rw [hzl]; exact Nat.mod_lt _ h0
      refine (hrz.2 _ hj).oneCell ?_
      simp only [List.getD, List.getElem?_eq_getElem hj, Option.getD_some]
      exact List.all_eq_true.1 hlf _ (List.getElem_mem hj)
    · have hq := idx_lt hi hj
      rw [hmade _ (by omega)]
      rw [show (i * sz + j) % sz = j by rw [Nat.add_comm, Nat.add_mul_mod_self_right, Nat.mod_eq_of_lt hj]]
      have hj' : j < z.length := by omega
      have hl1 : (z.getD j .top).leaf = true := by
        simp only [List.getD, List.getElem?_eq_getElem hj', Option.getD_some]
        exact List.all_eq_true.1 hlf _ (List.getElem_mem hj')
      have e2 : ((List.replicate n (z.map PV.dem1)).getD i []).getD j .top = (z.getD j .top).dem1 := by simp [List.getD, hi, hj']
      rw [e2]
      exact ((hrz.2 j hj').inn_leaf hl1).le hle.inn
    · injection hs' with hs'
      subst hs'
      exact ⟨_, _, if_pos rfl, Nat.le_refl _, fun _ => rfl⟩
end
end Go.Proofs.YtamllmoakgnjoaaDoor
/- Each step of the machine of plain values is the model's: calls; all together; no program is named here. -/
namespace Go.Proofs.YtamllmoakgnjoaaDoor
open Go.RowKit
theorem getD_eq {α : Type} {l : List α} {j : Nat} (h : j < l.length) (d : α) : l.getD j d = l[j] := by simp [List.getD, h]
theorem applyW_setAll (outs : List (List PV)) : ∀ (ids : List Nat) (n : Nat) (hp : Nat → HC), ids.Nodup →
    (∀ j, j < ids.length → applyW hp ((ids.zipIdx n).map fun p => (p.1, HC.cells (outs.getD p.2 []))) (ids.getD j 0) = .cells (outs.getD (n + j) [])) ∧ ∀ k, k ∉ ids → applyW hp ((ids.zipIdx n).map fun p => (p.1, HC.cells (outs.getD p.2 []))) k = hp k
  | [], _, _, _ => ⟨fun j hj => by simp at hj, fun _ _ => rfl⟩
  | i :: ids, n, hp, hnd => by
    have hnd' := List.nodup_cons.1 hnd
    obtain ⟨h1, h2⟩ := applyW_setAll outs ids (n + 1) (upd hp i (.cells (outs.getD n []))) hnd'.2
    simp only [List.zipIdx_cons, List.map_cons, applyW]
    refine ⟨fun j hj => ?_, fun k hk => ?_⟩
    · cases j with
      | zero =>
        have := h2 i hnd'.1
        rw [upd_same] at this
        simpa [List.getD] using this
      | succ j =>
        have := h1 j (by simpa using hj)
        rw [show n + 1 + j = n + (j + 1) by omega] at this
        simpa [List.getD] using this
    · rw [h2 k (fun h => hk (List.mem_cons_of_mem _ h)), upd_ne _ _ (fun e => hk (by rw [e]; exact List.mem_cons_self))]
section
variable {C : Ctx} {w0 : World} {pb : Nat → Option Nat} {F0 : Nat → Nat → Prop} {hp : Nat → HC} {E : Env}
theorem call_sound (h : HR C w0 pb F0 hp E) {f : FuncId} {args : List PV} {vs : Array Value} (hr : RepC E args vs) {e : Eff} (hv : vcCall C f args hp (· = e)) :
    Calls C.P f vs E.w fun en w' => ∃ z, en = .returned z ∧ After C w0 pb F0 hp E e z w' := by
  obtain ⟨ids, ars, css, r, outs, he, hnd, hcl, hbx, hlfi, hplo, hpl, hspec, rfl⟩ := hv
  have hil : (css.map (·.map PV.dem1)).length = ids.length := by simpa using hcl
  let β' : Nat → Option Nat := fun b => if 0 < b ∧ b ≤ ids.length then E.β (ids.getD (b - 1) 0) else none
  have hβ : ∀ b g, β' b = some g → 0 < b ∧ b ≤ ids.length ∧ E.β (ids.getD (b - 1) 0) = some g := fun b g hb => by
    by_cases hc : 0 < b ∧ b ≤ ids.length
    · exact ⟨hc.1, hc.2, (if_pos hc).symm.trans hb⟩
    · have : β' b = none := if_neg hc
      rw [this] at hb; cases hb
  have hβi : ∀ j, j < ids.length → β' (j + 1) = E.β (ids.getD j 0) := fun j hj => by
    have : β' (j + 1) = E.β (ids.getD (j + 1 - 1) 0) := if_pos ⟨by omega, by omega⟩
    rw [this]; rfl
  have hinn : ∀ (β : Nat → Option Nat), E.inn.le ⟨E.w, E.F, β, fun _ => none⟩ := fun β => ⟨fun _ _ h => h, fun _ _ _ => rfl, fun _ _ h => (by cases h), fun _ _ _ h => (by cases h)⟩
  have hargs : RepC ⟨E.w, E.F, β', fun _ => none⟩ ars vs := by
    refine ⟨by rw [← hr.1, ← he, List.length_map], fun i hi => ?_⟩
    have hi' : i < args.length := by rw [← he, List.length_map]; exact hi
    have h1 := hr.2 i hi'
    have e1 : args.getD i .top = ren ids (ars.getD i .top) := by rw [← he]; simp [List.getD, hi]
    rw [e1] at h1
    have hm : ars.getD i .top ∈ ars := by simp only [List.getD, List.getElem?_eq_getElem hi, Option.getD_some]; exact List.getElem_mem hi
    generalize ars.getD i .top = q at *
    rcases hpl q hm with hp1 | ⟨b, off, rfl, hb0, hb1⟩
    · have : ren ids q = q := by cases q <;> first | rfl | simp [PV.plain] at hp1
      rw [this] at h1
      exact (h1.inn_plain hp1).le (hinn _)
    · generalize vs.getD i undef = x at *
      cases h1 with
      | ptr _ _ g hg => exact .ptr b off g ((if_pos ⟨hb0, hb1⟩).trans hg)
  have hboxes : BoxesAt ⟨E.w, E.F, β', fun _ => none⟩ (css.map (·.map PV.dem1)) := by
    intro j hj
    rw [hil] at hj
    obtain ⟨h0, h1⟩ := hbx j hj
    obtain ⟨g, T, us, e1, e2, e3, e4⟩ := h.o.box _ _ h0 h1
    have hj' : j < css.length := by omega
    have hm : css.getD j [] ∈ css := by rw [getD_eq hj']; exact List.getElem_mem hj'
    have hlf := List.all_eq_true.1 (hlfi _ hm)
    have e0 : (css.map (·.map PV.dem1)).getD j [] = (css.getD j []).map PV.dem1 := by
      rw [getD_eq (by simpa using hj'), getD_eq hj']; simp
    refine ⟨g, T, us, (hβi j hj).trans e1, e2, ?_, e4⟩
    rw [e0]
    generalize css.getD j [] = cs at *
    refine ⟨by simpa using e3.1, fun i hi => ?_⟩
    have hi' : i < cs.length := by simpa using hi
    have := e3.2 i hi'
    rw [getD_eq hi'] at this
    rw [getD_eq hi]
    simp only [List.getElem_map]
    exact (this.inn_leaf (hlf _ (List.getElem_mem hi'))).le (hinn _)
  refine (hspec E.w E.F β' vs h.b.places (Nat.le_trans h.b.gsz h.b.size) (fun g => h.b.glob g) hargs hboxes (fun g i hf => (h.b.Fin g i hf).1) (fun b g i hb => h.o.bF _ g i (hβ b g hb).2.2) (fun b g hb => ?_) (fun b b' g hb hb' => ?_)).mono ?_
  · obtain ⟨h1, h2, h3⟩ := hβ b g hb
    have hn := h.o.bnew _ g h3
    refine ⟨h1, by omega, ?_, hn.2.1⟩
    rcases hn.2.2 with h4 | h4
    · exact Nat.le_trans h.b.gsz h4
    · exact (h.b.pbin g h4).1
  · obtain ⟨h1, h2, h3⟩ := hβ b g hb
    obtain ⟨h4, h5, h6⟩ := hβ b' g hb'
    have := h.o.binj _ _ g h3 h6
    have h7 : b - 1 < ids.length := by omega
    have h8 : b' - 1 < ids.length := by omega
    rw [getD_eq h7, getD_eq h8] at this
    have := (List.getElem_inj hnd).1 this
    omega
  · rintro en w' ⟨x, F', rfl, q1, q2, q3, q4, q5, q6, q7, q8, q9, q10, q11⟩
    refine ⟨x, rfl, ⟨w', F', E.β, E.O⟩, rfl, ?_⟩
    have hblock : ∀ k, k < E.w.heap.size → (∀ j, j < ids.length → E.β (ids.getD j 0) ≠ some k) → w'.heap[k]? = E.w.heap[k]? := fun k hk hn => q5 k hk fun b hb => by
      obtain ⟨h1, h2, h3⟩ := hβ b k hb
      exact hn (b - 1) (by omega) h3
    have hle : E.le ⟨w', F', E.β, E.O⟩ := ⟨q6, fun g i hf => World.cell?_of_block (hblock g (h.b.Fin g i hf).1 fun j _ hb => h.o.bF _ g i hb hf), fun _ _ h => h, fun _ v n h => ⟨v, n, h, Nat.le_refl _, fun _ => rfl⟩⟩
    obtain ⟨s1, s2⟩ := applyW_setAll outs ids 0 hp hnd
    have hset : ∀ k, applyW hp (setAll ids outs) k = applyW hp ((ids.zipIdx 0).map fun p => (p.1, HC.cells (outs.getD p.2 []))) k := fun k => rfl
    have hnz : 0 ∉ ids := fun hm => by
      obtain ⟨j, hj, hj'⟩ := List.mem_iff_getElem.1 hm
      have := (hbx j hj).1
      rw [getD_eq hj] at this
      exact this hj'
    refine ⟨⟨h.b.next hle q1 q2 q3 q4 (fun k hk hn => hblock k (Nat.lt_of_lt_of_le hk h.b.size) fun j _ hb => ?_) (fun g i hf => ?_), ?_⟩, hle, ?_⟩
    · rcases (h.o.bnew _ k hb).2.2 with h4 | h4
      · omega
      · exact hn h4
    · rcases q7 g i hf with h0 | h0
      · exact .inl h0
      · exact .inr ⟨Nat.le_trans h.b.size h0.1, h0.2⟩
    · have hrows : ∀ t n e, applyW hp (setAll ids outs) t = .row n e → t ∉ ids ∧ hp t = .row n e := fun t n e ht => by
        rw [hset] at ht
        by_cases hm : t ∈ ids
        · obtain ⟨j, hj, rfl⟩ := List.mem_iff_getElem.1 hm
          have := s1 j hj
          rw [getD_eq hj] at this
          rw [this] at ht; cases ht
        · rw [s2 t hm] at ht
          exact ⟨hm, ht⟩
      refine ⟨?_, fun b cs hb hc => ?_, fun b g hb => ?_, h.o.binj, fun b g i hb hf => ?_, fun t n e ht hrow => ?_⟩
      · obtain ⟨m, n1, n2, n3⟩ := h.o.nx
        refine ⟨m, by rw [hset, s2 0 hnz]; exact n1, n2, fun b hb => ⟨(n3 b hb).1, (n3 b hb).2.1, ?_⟩⟩
        have : b ∉ ids := fun hm => by
          obtain ⟨j, hj, rfl⟩ := List.mem_iff_getElem.1 hm
          have := (hbx j hj).2
          rw [getD_eq hj] at this
          rw [(n3 _ hb).2.2] at this
          cases this
        rw [hset, s2 b this]; exact (n3 b hb).2.2
      · rw [hset] at hc
        by_cases hm : b ∈ ids
        · obtain ⟨j, hj, rfl⟩ := List.mem_iff_getElem.1 hm
          have h1 := s1 j hj
          rw [getD_eq hj, Nat.zero_add] at h1
          rw [h1] at hc
          injection hc with hc
          obtain ⟨g, T, us, e1, e2, e3, e4⟩ := q11 j (by omega)
          have e1' := (hβi j hj).symm.trans e1
          rw [getD_eq hj] at e1'
          have hjo : j < outs.length := by omega
          rw [getD_eq hjo] at e3 hc
          rw [hc] at e3
          have hpl1 := List.all_eq_true.1 (hplo _ (List.getElem_mem hjo))
          rw [hc] at hpl1
          refine ⟨g, T, us, e1', e2, ⟨e3.1, fun i hi => ?_⟩, e4⟩
          have := e3.2 i hi
          rw [getD_eq hi] at this ⊢
          exact (this.inn_plain1 (hpl1 _ (List.getElem_mem hi))).le (Env.le.trans (b := (⟨w', F', E.β, E.O⟩ : Env).inn) ⟨fun _ _ h => h, fun _ _ _ => rfl, fun _ _ h => (by cases h), fun _ _ _ h => (by cases h)⟩ (Env.inn_le _))
        · rw [s2 b hm] at hc
          obtain ⟨g, T, us, e1, e2, e3, e4⟩ := h.o.box b cs hb hc
          refine ⟨g, T, us, e1, (hblock g e2.lt fun j hj hb' => ?_).trans e2, e3.le hle, e4⟩
          have := h.o.binj _ _ g e1 hb'
          rw [this] at hm
          refine hm ?_
          rw [getD_eq hj]
          exact List.getElem_mem hj
      · have := h.o.bnew b g hb
        exact ⟨this.1, Nat.lt_of_lt_of_le this.2.1 q4, this.2.2⟩
      · rcases q7 g i hf with h0 | h0
        · exact h.o.bF b g i hb h0
        · have := (h.o.bnew b g hb).2.1
          omega
      · obtain ⟨hti, htr⟩ := hrows t n e hrow
        obtain ⟨A, c, e1, e2, e3, e4⟩ := h.o.own t n e ht htr
        refine ⟨A, c, e1, e2, e3, ?_⟩
        rcases e4 with e4 | ⟨g, cur, sz, p1, p2, p3, p4, p5, p6, p7, p8⟩
        · exact .inl e4
        · refine .inr ⟨g, cur, sz, p1, (hblock g p2.lt fun j _ hb => p7 _ hb).trans p2, p3, p4, p5, fun i hf => ?_, p7, fun t' n' e' o' c' ht' hrow' ho' hc' => p8 t' n' e' o' c' ht' (hrows t' n' e' hrow').2 ho' hc'⟩
          rcases q7 g i hf with h0 | h0
          · exact p6 i h0
          · have := p2.lt
            omega
    · exact (q9.inn_plain q8).le (Env.le.trans (b := (⟨w', F', E.β, E.O⟩ : Env).inn) ⟨fun _ _ h => h, fun _ _ _ => rfl, fun _ _ h => (by cases h), fun _ _ _ h => (by cases h)⟩ (Env.inn_le _))
end
end Go.Proofs.YtamllmoakgnjoaaDoor
/- Each step of the machine of plain values is the model's: all together; what a step looks at; no program is named here. -/
namespace Go.Proofs.YtamllmoakgnjoaaDoor
open Go.RowKit
theorem vcNew_ex {z : Option (List PV)} {hp : Nat → HC} {K : Eff → Prop} (h : vcNew z hp K) : ∃ e, vcNew z hp (· = e) ∧ K e := by
  unfold vcNew at *
  split at h
  · exact ⟨_, ⟨h.1, rfl⟩, h.2⟩
  · exact h.elim
theorem vcCall_ex {C : Ctx} {f : FuncId} {args : List PV} {hp : Nat → HC} {K : Eff → Prop} (h : vcCall C f args hp K) : ∃ e, vcCall C f args hp (· = e) ∧ K e := by
  obtain ⟨ids, ars, css, r, outs, h1, h2, h3, h4, h5, h6, h7, h8, h9⟩ := h
  exact ⟨_, ⟨ids, ars, css, r, outs, h1, h2, h3, h4, h5, h6, h7, h8, rfl⟩, h9⟩
theorem vcAppend_ex {P : Program} {t tx : TypeId} {s x : PV} {hp : Nat → HC} {K : Eff → Prop} (h : vcAppend P t tx s x hp K) : ∃ e, vcAppend P t tx s x hp (· = e) ∧ K e := by
  unfold vcAppend at *
  split at h
  · split at h
    · split at h
      · obtain ⟨r, h1, h2, h7⟩ := h
        split at h7
        · split at h7
          · exact ⟨_, ⟨r, h1, h2, rfl⟩, h7⟩
          · exact h7.elim
        · exact ⟨_, ⟨r, h1, h2, h7.1, h7.2.1, rfl⟩, h7.2.2⟩
        · exact h7.elim
      · exact h.elim
    · exact h.elim
  · exact h.elim
theorem vcLen_ex {P : Program} {t : TypeId} {x : PV} {K : PV → Prop} (h : vcLen P t x K) : ∃ p, vcLen P t x (· = p) ∧ K p := by
  unfold vcLen at *
  split at h <;> first | exact h.elim | exact ⟨_, rfl, h⟩
theorem vcPart_mono {P : Program} {t : TypeId} {cs : List PV} {off : Nat} {K K' : PV → Prop} (hk : ∀ p, K p → K' p) (h : vcPart P t cs off K) : vcPart P t cs off K' := by
  unfold vcPart at *
  simp only [force_eq] at *
  split at h
  · exact ⟨h.1, hk _ h.2⟩
  · exact ⟨h.1, hk _ h.2⟩
  · exact h.elim
theorem vcLen_mono {P : Program} {t : TypeId} {x : PV} {K K' : PV → Prop} (hk : ∀ p, K p → K' p) (h : vcLen P t x K) : vcLen P t x K' := by
  unfold vcLen at *
  split at h <;> first | exact h.elim | exact hk _ h
theorem vcPure_mono {P : Program} {ρ : Operand → PV} {op : Op} {K K' : PV → Prop} (hk : ∀ p, K p → K' p) (h : vcPure P ρ op K) : vcPure P ρ op K' := by
  obtain ⟨p, h1, h2⟩ := vcPure_ex h
  have h2 := hk p h2
  clear h hk
  cases op <;> simp only [vcPure, force_eq] at h1 ⊢ <;> try exact h1.elim
  case move x => rw [h1]; exact h2
  case assign x => rw [h1]; exact h2
  case pick c a b =>
    split at h1
    · exact pick2_intro (by rw [pick2_spec h1]; exact h2)
    · exact h1.elim
  case nilCheck x =>
    split at h1
    · rw [h1]; exact h2
    · rw [h1]; exact h2
    · exact h1.elim
  case binOp op t x y _ =>
    unfold vcBin at *
    split at h1
    · unfold vcInt at *
      cases op <;> simp only at h1 ⊢ <;> first | exact h1.elim | exact ⟨h1.1, h1.2.1, h1.2.2 ▸ h2⟩ | exact ⟨h1.1, h1.2 ▸ h2⟩
    · unfold vcStr at *
      cases op <;> simp only at h1 ⊢ <;> first | exact h1.elim | exact ⟨h1.1, h1.2 ▸ h2⟩ | exact h1 ▸ h2
    · obtain ⟨h3, h1⟩ := h1
      cases op <;> simp only at h1 ⊢ <;> first | exact h1.elim | exact ⟨h3, h1 ▸ h2⟩
    · unfold vcEq at *
      cases op <;> simp only at h1 ⊢ <;> first | exact h1.elim | (obtain ⟨a, b, c, q1, q2, q3, q4⟩ := h1; exact ⟨a, b, c, q1, q2, q3, q4 ▸ h2⟩)
    · exact h1.elim
  case unOp op _ x =>
    unfold vcUn at *
    split at h1 <;> first | exact h1.elim | exact h1 ▸ h2
  case convert src dst x =>
    unfold vcConv at *
    split at h1 <;> first | exact h1.elim | exact ⟨h1.1, h1.2 ▸ h2⟩
  case build t parts =>
    unfold vcBuild at *
    split at h1
    · obtain ⟨cs, q1, q2⟩ := vcOpt_ex h1
      rw [q1]; exact ⟨q2.1, q2.2 ▸ h2⟩
    · split at h1
      · obtain ⟨cs, q1, q2⟩ := vcOpt_ex h1
        rw [q1]; show K' (PV.agg cs); rw [q2]; exact h2
      · exact h1.elim
    · exact h1.elim
  case slice t x lo hi mx =>
    unfold vcSlice at *
    split at h1
    · obtain ⟨l, m, r, q1, q2, q3, q4, q5, q6, q7⟩ := h1
      exact ⟨l, m, r, q1, q2, q3, q4, q5, q6, q7 ▸ h2⟩
    · obtain ⟨l, m, r, q1, q2, q3, q4, q5, q6, q7, q8, q9⟩ := h1
      exact ⟨l, m, r, q1, q2, q3, q4, q5, q6, q7, q8, q9 ▸ h2⟩
    · obtain ⟨l, m, r, q1, q2, q3, q4, q5, q6, q7⟩ := h1
      exact ⟨l, m, r, q1, q2, q3, q4, q5, q6, q7 ▸ h2⟩
    · exact h1.elim
  case fieldAddr t x f =>
    unfold vcFieldAddr at *
    split at h1
    · split at h1
      · obtain ⟨q1, q2⟩ := h1
        split at q2
        · exact ⟨q1, q2 ▸ h2⟩
        · exact ⟨q1, q2 ▸ h2⟩
        · exact q2.elim
      · exact h1.elim
    · exact h1.elim
  case field t x f =>
    unfold vcField at *
    split at h1
    · split at h1
      · exact vcPart_mono (K := (· = p)) (fun q hq => by rw [hq]; exact h2) h1
      · exact h1.elim
    · exact h1.elim
  case indexAddr t x i =>
    unfold vcIndexAddr at *
    split at h1
    · obtain ⟨j, c, q1, q2, q3, q4⟩ := h1
      exact ⟨j, c, q1, q2, q3, q4 ▸ h2⟩
    · obtain ⟨j, q1, q2, q3⟩ := h1
      split at q3
      · exact ⟨j, q1, q2, q3 ▸ h2⟩
      · exact q3.elim
    · obtain ⟨j, q1, q2, q3⟩ := h1
      split at q3
      · exact ⟨j, q1, q2, q3 ▸ h2⟩
      · exact q3.elim
    · exact h1.elim
  case index t x i =>
    unfold vcIndex at *
    split at h1
    · obtain ⟨j, q1, q2, q3⟩ := h1
      split at q3
      · exact ⟨j, q1, q2, vcPart_mono (K := (· = p)) (fun q hq => by rw [hq]; exact h2) q3⟩
      · exact q3.elim
    · obtain ⟨j, b, q1, q2, q3⟩ := h1
      exact ⟨j, b, q1, q2, q3 ▸ h2⟩
    · exact h1.elim
  case extract x i =>
    split at h1
    · split at h1
      · exact h1 ▸ h2
      · exact h1.elim
    · exact h1.elim
section
variable {C : Ctx} {ρ : Operand → PV} {op : Op} {hp : Nat → HC}
theorem vcOp_ex {K : Eff → Prop} (h : vcOp C ρ op hp K) : ∃ e, vcOp C ρ op hp (· = e) ∧ K e := by
  have hpure : ∀ {op}, vcPure C.P ρ op (fun p => K ⟨p, [], []⟩) → ∃ e, vcPure C.P ρ op (fun p => Eff.mk p [] [] = e) ∧ K e := fun h => by
    obtain ⟨p, h1, h2⟩ := vcPure_ex h
    exact ⟨_, vcPure_mono (fun q hq => by rw [hq]) h1, h2⟩
  cases op <;> simp only [vcOp] at h ⊢ <;> try exact hpure h
  case load t x =>
    split at h
    · obtain ⟨p, h1, h2⟩ := vcPart_ex h
      exact ⟨_, vcPart_mono (fun q hq => by rw [hq]) h1, h2⟩
    · split at h
      · obtain ⟨p, h1, h2⟩ := vcPart_ex h.2
        exact ⟨_, ⟨h.1, vcPart_mono (fun q hq => by rw [hq]) h1⟩, h2⟩
      · exact h.elim
    · exact h.elim
  case store t x y =>
    split at h
    · split at h
      · exact ⟨_, ⟨h.1, h.2.1, h.2.2.1, h.2.2.2.1, rfl⟩, h.2.2.2.2⟩
      · exact h.elim
    · exact h.elim
  case alloc t => exact vcNew_ex h
  case box t x => exact vcNew_ex h
  case buildSlice t len parts =>
    split at h
    · split at h
      · obtain ⟨h1, h2, h3, h4, h5, h6⟩ := h
        split at h6
        · rename_i hes
          exact ⟨_, ⟨h1, h2, h3, h4, h5, rfl⟩, h6⟩
        · exact h6.elim
      · exact h.elim
    · exact h.elim
  case makeSlice t l c =>
    split at h
    · split at h
      · obtain ⟨n, k, h1, h2, h3, h4, h5, h6, h7, h8, h9⟩ := h
        exact ⟨_, ⟨n, k, h1, h2, h3, h4, h5, h6, h7, h8, rfl⟩, h9⟩
      · exact h.elim
    · exact h.elim
  case call c =>
    split at h
    · split at h
      · obtain ⟨e, h1, h2⟩ := vcAppend_ex h.2.2
        exact ⟨e, ⟨h.1, h.2.1, h1⟩, h2⟩
      · exact h.elim
    · split at h
      · obtain ⟨p, h1, h2⟩ := vcLen_ex h
        exact ⟨_, vcLen_mono (fun q hq => by rw [hq]) h1, h2⟩
      · exact h.elim
    · obtain ⟨e, h1, h2⟩ := vcCall_ex h.2
      exact ⟨e, ⟨h.1, h1⟩, h2⟩
    · exact h.elim
theorem vcOp_congr {ρ' : Operand → PV} (K : Eff → Prop) (h : ∀ x ∈ op.operands, ρ x = ρ' x) : vcOp C ρ op hp K = vcOp C ρ' op hp K := by
  have hparts : ∀ (parts : Array (Nat × Operand)), (∀ x ∈ (parts.toList.map (·.2)).toArray, ρ x = ρ' x) → (parts.toList.map fun p => (p.1, ρ p.2)) = parts.toList.map fun p => (p.1, ρ' p.2) := fun parts h =>
    List.map_congr_left fun p hp => by rw [h p.2 (by simp; exact ⟨p.1, by simpa using hp⟩)]
  cases op
  case load t x => simp only [vcOp]; rw [h x (by simp [Op.operands])]
  case store t x y => simp only [vcOp]; rw [h x (by simp [Op.operands]), h y (by simp [Op.operands])]
  case alloc t => rfl
  case box t x => simp only [vcOp]; rw [h x (by simp [Op.operands])]
  case buildSlice t len parts => simp only [vcOp]; rw [hparts parts h]
  case makeSlice t l c => simp only [vcOp]; rw [h l (by simp [Op.operands]), h c (by simp [Op.operands])]
  case call c =>
    simp only [vcOp]
    have hargs : ∀ x ∈ c.args, ρ x = ρ' x := fun x hx => h x (by simp [Op.operands, Call.operands]; exact .inr hx)
    have e1 : (c.args.toList.map fun a => (ρ a).dem) = c.args.toList.map fun a => (ρ' a).dem := List.map_congr_left fun a ha => by rw [hargs a (by simpa using ha)]
    rw [e1]
    cases hc : c.callee with
    | value f => cases f <;> rfl
    | invoke r m => rfl
    | builtin b =>
      cases b <;> try rfl
      case append =>
        cases h0 : c.args[0]? with
        | none => rfl
        | some s =>
          cases h1 : c.args[1]? with
          | none => rfl
          | some x =>
            cases c.argTypes[0]? with
            | none => rfl
            | some t =>
              cases c.argTypes[1]? with
              | none => rfl
              | some tx =>
                simp only
                rw [hargs s (Array.mem_of_getElem? h0), hargs x (Array.mem_of_getElem? h1)]
      case len =>
        cases h0 : c.args[0]? with
        | none => rfl
        | some s =>
          cases c.argTypes[0]? with
          | none => rfl
          | some t =>
            simp only
            rw [hargs s (Array.mem_of_getElem? h0)]
  all_goals (simp only [vcOp]; exact vcPure_congr _ h)
theorem vcOp_frame {hp' : Nat → HC} {e : Eff} (h : vcOp C ρ op hp (· = e)) (hk : ∀ k ∈ e.rd, hp' k = hp k) : vcOp C ρ op hp' (· = e) := by
  have hnew : ∀ {z : Option (List PV)}, vcNew z hp (· = e) → vcNew z hp' (· = e) := by
    intro z h
    unfold vcNew at *
    split at h
    · rename_i m hm
      obtain ⟨h1, rfl⟩ := h
      rw [hk 0 (by simp), hm]
      exact ⟨h1, rfl⟩
    · exact h.elim
  cases op <;> simp only [vcOp] at h ⊢ <;> try exact h
  case load t x =>
    split at h
    · exact h
    · rename_i b off hx
      split at h
      · rename_i cs hb
        obtain ⟨p, h1, h2⟩ := vcPart_ex h.2
        subst h2
        rw [hk b (by simp), hb]
        exact h
      · exact h.elim
    · exact h.elim
  case store t x y =>
    split at h
    · split at h
      · rename_i hb hpc hsz
        obtain ⟨h1, h2, h3, h4, rfl⟩ := h
        rw [hk _ (by simp), hb, hpc, hsz]
        exact ⟨h1, h2, h3, h4, rfl⟩
      · exact h.elim
    · exact h.elim
  case alloc t => exact hnew h
  case box t x => exact hnew h
  case makeSlice t l c =>
    split at h
    · split at h
      · rename_i q1 q2 q3 h0
        obtain ⟨n, k, h1, h2, h3, h4, h5, h6, h7, h8, rfl⟩ := h
        rw [hk 0 (by simp), h0, q1, q2, q3]
        exact ⟨n, k, h1, h2, h3, h4, h5, h6, h7, h8, rfl⟩
      · exact h.elim
    · exact h.elim
  case call c =>
    split at h
    · split at h
      · obtain ⟨ha, hb, h⟩ := h
        refine ⟨ha, hb, ?_⟩
        unfold vcAppend at *
        split at h
        · split at h
          · split at h
            · obtain ⟨r, h1, h2, h7⟩ := h
              refine ⟨r, h1, h2, ?_⟩
              split at h7
              · split at h7
                · rename_i hm
                  subst h7
                  simp only
                  rw [hk 0 (by simp), hm]
                · exact h7.elim
              · obtain ⟨q1, q2, rfl⟩ := h7
                exact ⟨q1, by rw [hk _ (by simp)]; exact q2, rfl⟩
              · exact h7.elim
            · exact h.elim
          · exact h.elim
        · exact h.elim
      · exact h.elim
    · exact h
    · obtain ⟨h0, ids, ars, css, r, outs, h1, h2, h3, h4, h5, h6, h7, h8, rfl⟩ := h
      exact ⟨h0, ids, ars, css, r, outs, h1, h2, h3, fun j hj => ⟨(h4 j hj).1, by rw [hk _ (by simp only; rw [getD_eq hj]; exact List.getElem_mem hj)]; exact (h4 j hj).2⟩, h5, h6, h7, h8, rfl⟩
    · exact h.elim
end
section
variable {C : Ctx} {w0 : World} {pb : Nat → Option Nat} {F0 : Nat → Nat → Prop} {hp : Nat → HC} {E : Env}
theorem op_sound (h : HR C w0 pb F0 hp E) {o : Oper} {ρ : Operand → PV} {a : Act} (hr : ∀ x, Rep E (ρ x) (a.eval x)) {e : Eff} (hv : vcOp C ρ o.op hp (· = e)) {next : Act → World → Prop} {Q : Exit → Act → World → Prop}
    (hn : ∀ z w', After C w0 pb F0 hp E e z w' → next (a.put o.dst z) w') : o.wp C.P a E.w next Q := by
  have value : ∀ {z w'}, (execOp a.eval o).run C.P E.w = .ok (.value z) w' → After C w0 pb F0 hp E e z w' → o.wp C.P a E.w next Q := fun hrun ha => by
    unfold Oper.wp; rw [hrun]; exact hn _ _ ha
  have skip : ∀ {w'}, (execOp a.eval o).run C.P E.w = .ok .skip w' → After C w0 pb F0 hp E e undef w' → o.wp C.P a E.w next Q := fun hrun ha => by
    unfold Oper.wp; rw [hrun]; exact hn _ _ ha
  have hpure : vcPure C.P ρ o.op (fun p => Eff.mk p [] [] = e) → o.wp C.P a E.w next Q := fun h1 => by
    obtain ⟨p, h2, rfl⟩ := vcPure_ex h1
    obtain ⟨z, h3, h4⟩ := pure_sound hr h2
    exact value h3 (After.quiet h h4)
  have new : ∀ {cs : List PV} {m : Nat} {vs : Array Value} {T : TypeId}, hp 0 = .num m → RepC E cs vs → cs.all PV.leaf = true → e = ⟨.ptr m 0, [(0, .num (m + 1)), (m, .cells cs)], [0]⟩ →
      (execOp a.eval o).run C.P E.w = .ok (.value (.pointer (some ⟨E.w.heap.size, 0, none⟩))) (E.w.alloc (.cells vs T)) → o.wp C.P a E.w next Q := fun {cs m vs T} hm hrc hlf he hrun => by
    subst he
    obtain ⟨h1, h2, h3⟩ := h.newbox hm T cs vs hrc (fun i hi => (hrc.2 i (by rw [hrc.1]; exact hi)).oneCell (by
      have hi' : i < cs.length := by rw [hrc.1]; exact hi
      rw [getD_eq hi']
      exact List.all_eq_true.1 hlf _ (List.getElem_mem hi')))
    exact value hrun ⟨_, rfl, h1, h2, h3⟩
  cases ho : o.op <;> rw [ho] at hv <;> simp only [vcOp] at hv <;> try (rw [ho] at hpure; exact hpure hv)
  case load t x =>
    have hx := hr x
    split at hv
    · rename_i cs hc
      rw [hc] at hx
      obtain ⟨p, h1, rfl⟩ := vcPart_ex hv
      generalize hax : a.eval x = ax at *
      cases hx with
      | ro _ g b0 val hcell hrr =>
        obtain ⟨z, h2, h3⟩ := cells_of_part (E := E) (fun i hi => (hcell i hi).1) (fun i hi => (hrr i hi).le (Env.inn_le E)) h1
        rw [Nat.add_zero] at h2
        exact value (by simp [execOp, ho, hax, h2]) (After.quiet h h3)
    · rename_i b off hc
      rw [hc] at hx
      split at hv
      · rename_i cs hb
        obtain ⟨hb0, hv⟩ := hv
        obtain ⟨p, h1, rfl⟩ := vcPart_ex hv
        obtain ⟨g, T, vs, e1, e2, e3, e4⟩ := h.o.box b cs hb0 hb
        generalize hax : a.eval x = ax at *
        cases hx with
        | ptr _ _ g' hg' =>
          rw [e1] at hg'
          injection hg' with hg'
          subst hg'
          obtain ⟨z, h2, h3⟩ := cells_of_part (P := C.P) (w := E.w) (g := g) (b0 := 0) (E := E) (val := fun i => vs.getD i undef) (fun i hi => by rw [Nat.zero_add]; exact e2.getD (by rw [← e3.1]; exact hi)) e3.2 h1
          rw [Nat.zero_add] at h2
          exact value (by simp [execOp, ho, hax, h2]) (After.quiet h h3)
      · exact hv.elim
    · exact hv.elim
  case store t x y =>
    have hx := hr x
    split at hv
    · rename_i b off hc
      rw [hc] at hx
      split at hv
      · rename_i cs ds n hb hpc hsz
        obtain ⟨hb0, hn', hoff, hlf, rfl⟩ := hv
        have hn' := Nat.eq_of_beq_eq_true hn'
        have hoff := Nat.le_of_ble_eq_true hoff
        have hy := (hr y).partCells hpc
        have hone : ∀ v ∈ (a.eval y).cells.toList, v.oneCell' = true := fun v hv' => by
          obtain ⟨i, hi, rfl⟩ := List.mem_iff_getElem.1 hv'
          have hi' : i < ds.length := by rw [hy.1]; simpa using hi
          have := (hy.2 i hi').oneCell (by rw [getD_eq hi']; exact List.all_eq_true.1 hlf _ (List.getElem_mem hi'))
          have h2 : i < (a.eval y).cells.size := by simpa using hi
          simpa [Array.getD, h2] using this
        obtain ⟨g, e1, k1, k2, hR, hle⟩ := h.store hb0 hb ds off (a.eval y).cells.toList (by rw [hy.1]; simp) (by omega) (fun i hi => by
          have := hy.2 i hi
          have h2 : i < (a.eval y).cells.size := by rw [← hy.1]; exact hi
          have e : (a.eval y).cells.toList.getD i undef = (a.eval y).cells.getD i undef := by simp [List.getD, Array.getD, h2]
          rw [e]; exact this) hone
        generalize hax : a.eval x = ax at *
        cases hx with
        | ptr _ _ g' hg' =>
          rw [e1] at hg'
          injection hg' with hg'
          subst hg'
          have hst := run_storeCells_cells (P := C.P) g off (a.eval y).cells.toList 0 E.w (by simpa using k1) (by simpa using k2) hone
          rw [Nat.add_zero] at hst
          have hcs : ¬ (a.eval y).cells.size ≠ n := by rw [← hy.1, hn']; simp
          refine skip (w' := E.w.setCells g off (a.eval y).cells.toList) ?_ ⟨_, rfl, hR, hle, .v _⟩
          simp only [execOp, ho, hax, Instr.storeAt, Instr.sureAddr, storeVar, Sem.run_bind, Sem.run_pure, Result.andThen_ok, run_sizeOf hsz]
          rw [if_neg hcs]
          simp only [hst, Result.andThen_ok]
      · exact hv.elim
    · exact hv.elim
  case alloc t =>
    unfold vcNew at hv
    split at hv
    · rename_i cs m hz hm
      obtain ⟨v, hv', hrz⟩ := zero_sound (E := E) hz
      exact new hm hrz hv.1 hv.2.symm (T := t) (by simp [execOp, ho, Instr.alloc, hv', newVar, newRow])
    · exact hv.elim
  case box t x =>
    unfold vcNew at hv
    split at hv
    · rename_i cs m hpc hm
      exact new hm ((hr x).partCells hpc) hv.1 hv.2.symm (T := t) (by simp [execOp, ho, Instr.box, newVar, newRow])
    · exact hv.elim
  case buildSlice t len parts =>
    split at hv
    · rename_i el hu
      split at hv
      · rename_i sz z hsz hz
        obtain ⟨h0, h1, h2, h3, h4, h5⟩ := hv
        split at h5
        · rename_i es he
          subst h5
          obtain ⟨x, w', r1, r2⟩ := buildSlice_sound h (vals := parts.map fun (i, x) => (i, a.eval x)) hu hsz hz h0 h1 h2 (by simp [h3]) (by simp) (fun j hj => by
            have hj' : j < parts.size := by simpa using hj
            simp [List.getD, hj', hr]) h4 he
          exact value (by simp [execOp, ho, r1]) r2
        · exact h5.elim
      · exact hv.elim
    · exact hv.elim
  case makeSlice t l c =>
    split at hv
    · rename_i el hu
      split at hv
      · rename_i sz by_ z m hsz hby hz hm
        obtain ⟨n, k, h1, h2, h3, h4, h5, h6, h7, h8, rfl⟩ := hv
        obtain ⟨v, w', r1, r2⟩ := makeSlice_sound h (hr l) (hr c) hu hsz hby hz hm h1 h2 h3 h4 h5 h6 h7 h8
        exact value (by simp [execOp, ho, r1]) r2
      · exact hv.elim
    · exact hv.elim
  case call c =>
    obtain ⟨callee, args, argTypes⟩ := c
    split at hv
    · rename_i hc
      simp only at hc hv
      subst hc
      split at hv
      · rename_i s x t tx h0 h1 h2 h3
        obtain ⟨ha, hb, hv⟩ := hv
        have eargs : args = #[s, x] := by
          apply Array.ext
          · exact ha
          · intro i hi _
            have : i = 0 ∨ i = 1 := by omega
            rcases this with rfl | rfl
            · simpa [Array.getElem?_eq_getElem hi] using h0
            · simpa [Array.getElem?_eq_getElem hi] using h1
        have etys : argTypes = #[t, tx] := by
          apply Array.ext
          · exact hb
          · intro i hi _
            have : i = 0 ∨ i = 1 := by omega
            rcases this with rfl | rfl
            · simpa [Array.getElem?_eq_getElem hi] using h2
            · simpa [Array.getElem?_eq_getElem hi] using h3
        subst eargs etys
        obtain ⟨z, w', r1, r2⟩ := append_sound (ty := o.type) h (hr s) (hr x) hv
        exact value (by simp [execOp, ho, resolve, invoke, builtin, r1]) r2
      · exact hv.elim
    · rename_i hc
      simp only at hc hv
      subst hc
      split at hv
      · rename_i x t h0 h1
        obtain ⟨p, h2, rfl⟩ := vcLen_ex hv
        have hx := hr x
        have hrun : ∀ z, (Builtin.len_ argTypes o.type (args.map a.eval)).run C.P E.w = .ok z E.w → (execOp a.eval o).run C.P E.w = .ok (.value z) E.w := fun z hz => by
          simp [execOp, ho, resolve, invoke, builtin, hz]
        have h0' : (args.map a.eval)[0]? = some (a.eval x) := by simp [h0]
        unfold vcLen at h2
        split at h2
        · rename_i s hu hs
          rw [hs] at hx
          have := hx.v_eq
          subst h2
          exact value (hrun _ (by simp [Builtin.len_, h1, h0', this, run_underlying hu, goInt])) (After.quiet h (.v _))
        · rename_i el k es hu hs
          rw [hs] at hx
          subst h2
          generalize hax : a.eval x = ax at *
          cases hx with
          | sl _ _ A cap g o' sz val g1 g2 g3 g4 g5 g6 gc gr => exact value (hrun _ (by simp [Builtin.len_, h1, h0', run_underlying hu, goInt])) (After.quiet h (.v _))
        · rename_i n el hu
          subst h2
          exact value (hrun _ (by simp [Builtin.len_, h1, h0', run_underlying hu, goInt])) (After.quiet h (.v _))
        · exact h2.elim
      · exact hv.elim
    · rename_i f hc
      simp only at hc hv
      subst hc
      obtain ⟨hfn, hv⟩ := hv
      unfold callOk at hfn
      split at hfn
      · rename_i fn hf
        simp only [Bool.and_eq_true, Bool.not_eq_true'] at hfn
        obtain ⟨hb, hname⟩ := hfn
        have hargs : RepC E (args.toList.map fun x => (ρ x).dem) (args.map a.eval) := by
          refine ⟨by simp, fun i hi => ?_⟩
          have hi' : i < args.size := by simpa using hi
          have := (hr args[i]).dem
          simpa [List.getD, Array.getD, hi'] using this
        have hcall := call_sound h hargs hv
        have hrun : (execOp a.eval o).run C.P E.w = .ok (.enter f (args.map a.eval)) E.w := by
          have hbn : ¬ fn.body = none := fun e => by rw [e] at hb; cases hb
          have hn0 : ¬ fn.name = "runtime.NumGoroutine" := by simpa using hname
          simp [execOp, ho, resolve, Act.eval, Deferred.ofValue, invoke, callFunc, hf, hn0, hbn]
        unfold Oper.wp
        rw [hrun]
        refine hcall.mono ?_
        rintro en w' ⟨z, rfl, ha⟩
        exact hn _ _ ha
      · cases hfn
    · exact hv.elim
end
end Go.Proofs.YtamllmoakgnjoaaDoor
/- Regions of the machine of plain values: in the text's order, or in whatever order where the steps are apart; no program is named here. -/
namespace Go.Proofs.YtamllmoakgnjoaaDoor
open Go.RowKit
/-- Is the operation wanted? -/
def vcGuard (ops : Array Oper) (s : St) (o : Oper) (yes no : Prop) : Prop :=
  match o.guard with
  | none => yes
  | some (j, want) => match (ops[j]?).bind (·.dst) with
    | some d => match s.tm d with
      | .v (.bool b) => match want with
        | true => bsplit b yes no
        | false => bsplit b no yes
      | .v (.tuple _) => no
      | _ => False
    | none => False
def wantedA (ops : Array Oper) (s : St) (o : Oper) : Option Bool :=
  match o.guard with
  | none => some true
  | some (j, want) => match (ops[j]?).bind (·.dst) with
    | some d => match s.tm d with
      | .v (.bool b) => some (b == want)
      | .v (.tuple _) => some false
      | _ => none
    | none => none
theorem vcGuard_ex {ops : Array Oper} {s : St} {o : Oper} {yes no : Prop} (h : vcGuard ops s o yes no) : (wantedA ops s o = some true ∧ yes) ∨ (wantedA ops s o = some false ∧ no) := by
  unfold vcGuard wantedA at *
  split at h
  · exact .inl ⟨rfl, h⟩
  · split at h
    · split at h
      · rename_i b hb
        split at h <;> (cases b <;> first | exact .inl ⟨rfl, h.1 rfl⟩ | exact .inr ⟨rfl, h.2 rfl⟩ | exact .inl ⟨rfl, h.2 rfl⟩ | exact .inr ⟨rfl, h.1 rfl⟩)
      · exact .inr ⟨rfl, h⟩
      · exact h.elim
    · exact h.elim
def St.step (s : St) (o : Oper) (e : Eff) : St := { s.put o.dst e.v with hp := applyW s.hp e.wr }
abbrev FP := List Nat × List Nat
def Eff.fp (e : Eff) : FP := (e.rd, e.wr.map (·.1))
def vcRun (C : Ctx) (ops : Array Oper) : List Oper → St → List FP → (St → List FP → Prop) → Prop
  | [], s, tr, K => K s tr
  | o :: l, s, tr, K => vcGuard ops s o (vcOp C (C.ev s) o.op s.hp fun e => vcRun C ops l (s.step o e) (e.fp :: tr) K) (vcRun C ops l (s.put o.dst (.v undef)) (([], []) :: tr) K)
def eff0 : Eff := ⟨.v undef, [], []⟩
theorem step_eff0 (s : St) (o : Oper) : s.step o eff0 = s.put o.dst (.v undef) := by
  unfold St.step eff0 applyW
  simp only
  have := St.put_hp s o.dst (.v undef)
  generalize s.put o.dst (.v undef) = x at *
  cases x
  simp only at this
  rw [this]
/-- What an operation yields in a state: it is guarded away, or it takes its step. -/
def Yld (C : Ctx) (ops : Array Oper) (s : St) (o : Oper) (e : Eff) : Prop :=
  (wantedA ops s o = some false ∧ e = eff0) ∨ (wantedA ops s o = some true ∧ vcOp C (C.ev s) o.op s.hp (· = e))
inductive RunR (C : Ctx) (ops : Array Oper) : List Nat → St → List (Nat × FP) → St → Prop
  | nil (s : St) : RunR C ops [] s [] s
  | cons (i : Nat) (l : List Nat) (s s' : St) (o : Oper) (e : Eff) (tr : List (Nat × FP)) (hi : ops[i]? = some o) (hy : Yld C ops s o e) (h : RunR C ops l (s.step o e) tr s') : RunR C ops (i :: l) s ((i, e.fp) :: tr) s'
theorem run_of_vc {C : Ctx} {ops : Array Oper} {K : St → List FP → Prop} : ∀ (l : List Oper) (k : Nat) (s : St) (tr : List FP), (∀ j, l[j]? = ops[k + j]?) → vcRun C ops l s tr K →
    ∃ tr' s', RunR C ops (List.range' k l.length) s tr' s' ∧ K s' ((tr'.map (·.2)).reverse ++ tr)
  | [], k, s, tr, _, h => ⟨[], s, .nil s, h⟩
  | o :: l, k, s, tr, hl, h => by
    have h0 : ops[k]? = some o := by simpa using (hl 0).symm
    have hl' : ∀ j, l[j]? = ops[k + 1 + j]? := fun j => by have := hl (j + 1); simpa [Nat.add_assoc, Nat.add_comm 1 j] using this
    rcases vcGuard_ex h with ⟨hw, h⟩ | ⟨hw, h⟩
    · obtain ⟨e, h1, h2⟩ := vcOp_ex h
      obtain ⟨tr', s', r1, r2⟩ := run_of_vc l (k + 1) _ _ hl' h2
      refine ⟨_, s', .cons k _ s s' o e tr' h0 (.inr ⟨hw, h1⟩) r1, ?_⟩
      simpa using r2
    · obtain ⟨tr', s', r1, r2⟩ := run_of_vc l (k + 1) _ _ hl' h
      rw [← step_eff0] at r1
      refine ⟨_, s', .cons k _ s s' o eff0 tr' h0 (.inl ⟨hw, rfl⟩) r1, ?_⟩
      simpa [eff0, Eff.fp] using r2
/-- What the model holds of a state and its slots. -/
structure RelS (C : Ctx) (w0 : World) (pb : Nat → Option Nat) (F0 : Nat → Nat → Prop) (s : St) (a : Act) (E : Env) : Prop where
  h : HR C w0 pb F0 s.hp E
  d : a.defers = []
  n : a.tmps.size = s.n
  np : ∀ b g, pb b = some g → b ≤ s.np
  t : ∀ t, Rep E (s.tm t) (a.tmps.getD t undef)
section
variable {C : Ctx} {w0 : World} {pb : Nat → Option Nat} {F0 : Nat → Nat → Prop} {s s1 s' : St} {a : Act} {E : Env} {ops : Array Oper}
theorem RelS.ev (h : RelS C w0 pb F0 s a E) (x : Operand) : Rep E (C.ev s x) (a.eval x) := by
  cases x with
  | tmp t => exact h.t t
  | const v => exact Rep.ofV v
  | global g => exact (h.h.b.glob g).le (Env.inn_le E)
  | func f => exact .v _
theorem RelS.put (h : RelS C w0 pb F0 s a E) {d : Option Tmp} {p : PV} {z : Value} {E' : Env} {hp' : Nat → HC} (hR : HR C w0 pb F0 hp' E') (hle : E.le E') (hr : Rep E' p z) : RelS C w0 pb F0 { s.put d p with hp := hp' } (a.put d z) E' := by
  have hn : (s.put d p).n = s.n := St.put_n s d p
  have hnp : (s.put d p).np = s.np := St.put_np s d p
  refine ⟨hR, by cases d <;> exact h.d, ?_, fun b g hb => by show b ≤ (s.put d p).np; rw [hnp]; exact h.np b g hb, fun t => ?_⟩
  · show (a.put d z).tmps.size = (s.put d p).n
    rw [hn, ← h.n]
    cases d <;> simp [Act.put]
  · show Rep E' ((s.put d p).tm t) _
    rw [St.put_tm]
    cases d with
    | none => rw [if_neg (by simp)]; exact (h.t t).le hle
    | some d =>
      simp only [Act.put]
      by_cases ht : d = t
      · subst ht
        by_cases hlt : d < s.n
        · rw [if_pos ⟨rfl, hlt⟩]
          have : d < a.tmps.size := by rw [h.n]; exact hlt
          simp only [Array.getD_eq_getD_getElem?]
          rw [Array.getElem?_setIfInBounds_self_of_lt this]
          exact hr
        · rw [if_neg (fun h => hlt h.2)]
          have : ¬ d < a.tmps.size := by rw [h.n]; exact hlt
          rw [Array.setIfInBounds_eq_of_size_le (Nat.le_of_not_lt this)]
          exact (h.t d).le hle
      · rw [if_neg (fun h => ht (by simpa using h.1))]
        simp only [Array.getD_eq_getD_getElem?]
        rw [Array.getElem?_setIfInBounds_ne ht]
        have := (h.t t).le hle
        simpa only [Array.getD_eq_getD_getElem?] using this
theorem yielded_of (h : RelS C w0 pb F0 s a E) {o : Oper} {b : Bool} (hw : wantedA ops s o = some b) : Region.wanted o (yielded ops a.tmps) = b := by
  unfold wantedA at hw
  unfold Region.wanted
  split at hw
  · rename_i hg
    rw [hg]
    injection hw with hw
  · rename_i j want hg
    rw [hg]
    simp only
    split at hw
    · rename_i d hd
      have ht := h.t d
      unfold yielded
      rw [hd]
      simp only [Option.bind_some]
      split at hw
      · rename_i x hx
        rw [hx] at ht
        injection hw with hw
        have hv := ht.v_eq
        simp only [Array.getD_eq_getD_getElem?] at hv
        cases hq : a.tmps[d]? with
        | none => rw [hq] at hv; cases hv
        | some y =>
          rw [hq] at hv
          have hv : y = .bool x := hv
          subst hv
          rw [← hw]
          cases x <;> cases want <;> rfl
      · rename_i vs hx
        rw [hx] at ht
        injection hw with hw
        have hv := ht.v_eq
        simp only [Array.getD_eq_getD_getElem?] at hv
        cases hq : a.tmps[d]? with
        | none => rw [← hw]; rfl
        | some y =>
          rw [hq] at hv
          have hv : y = .tuple vs := hv
          subst hv
          rw [← hw]; rfl
      · cases hw
    · cases hw
theorem yld_sound (h : RelS C w0 pb F0 s a E) {i : Nat} {o : Oper} {e : Eff} (hi : ops[i]? = some o) (hy : Yld C ops s o e) {K : Act → World → Prop} {Q : Exit → Act → World → Prop}
    (hk : ∀ a' E', RelS C w0 pb F0 (s.step o e) a' E' → K a' E'.w) : wpOp C.P ops Q i K a E.w := by
  unfold wpOp
  rw [hi]
  simp only
  rcases hy with ⟨hw, rfl⟩ | ⟨hw, hv⟩
  · rw [if_neg (by rw [yielded_of h hw]; simp)]
    exact hk _ E (h.put h.h (Env.le.refl E) (.v _))
  · rw [if_pos (yielded_of h hw)]
    refine .inl (op_sound h.h h.ev hv fun z w' ha => ?_)
    obtain ⟨E', rfl, hR, hle, hr⟩ := ha
    exact hk _ E' (h.put hR hle hr)
/-- In the text's order. -/
theorem seq_sound {Q : Exit → Act → World → Prop} : ∀ {l : List Nat} {s s' : St} {tr : List (Nat × FP)} {a : Act} {E : Env}, RunR C ops l s tr s' → RelS C w0 pb F0 s a E → (∀ a' E', RelS C w0 pb F0 s' a' E' → Q .normal a' E'.w) → wpOps C.P ops Q l a E.w
  | [], _, _, _, _, _, hr, h, hq => by
    cases hr
    exact hq _ _ h
  | i :: l, _, _, _, _, _, hr, h, hq => by
    cases hr with
    | cons _ _ _ _ o e tr hi hy hr =>
      rw [wpOps_cons]
      exact yld_sound h hi hy fun a' E' h' => seq_sound hr h' hq
/-! Whatever order. -/
def disj (x y : FP) : Bool := (x.2.all fun k => !y.1.contains k && !y.2.contains k) && (y.2.all fun k => !x.1.contains k)
theorem disj_spec {x y : FP} (h : disj x y = true) : (∀ k ∈ x.2, k ∉ y.1 ∧ k ∉ y.2) ∧ ∀ k ∈ y.2, k ∉ x.1 ∧ k ∉ x.2 := by
  simp only [disj, Bool.and_eq_true, List.all_eq_true, Bool.not_eq_true', List.contains_eq_mem, decide_eq_false_iff_not] at h
  exact ⟨h.1, fun k hk => ⟨h.2 k hk, fun hx => (h.1 k hx).2 hk⟩⟩
theorem applyW_out {hp : Nat → HC} : ∀ {l : List (Nat × HC)} {k : Nat}, k ∉ l.map (·.1) → applyW hp l k = hp k
  | [], _, _ => rfl
  | (i, c) :: l, k, h => by
    simp only [List.map_cons, List.mem_cons, not_or] at h
    simp only [applyW]
    rw [applyW_out h.2, upd_ne _ _ h.1]
theorem applyW_congr {hp hp' : Nat → HC} : ∀ {l : List (Nat × HC)} {k : Nat}, k ∈ l.map (·.1) ∨ hp k = hp' k → applyW hp l k = applyW hp' l k
  | [], _, h => by rcases h with h | h; cases h; exact h
  | (i, c) :: l, k, h => by
    simp only [applyW]
    refine applyW_congr ?_
    by_cases hk : k = i
    · subst hk; exact .inr (by rw [upd_same, upd_same])
    · rcases h with h | h
      · simp only [List.map_cons, List.mem_cons] at h
        exact .inl (h.resolve_left hk)
      · exact .inr (by rw [upd_ne _ _ hk, upd_ne _ _ hk]; exact h)
theorem applyW_comm {hp : Nat → HC} {l l' : List (Nat × HC)} (h : ∀ k ∈ l.map (·.1), k ∉ l'.map (·.1)) : applyW (applyW hp l) l' = applyW (applyW hp l') l := by
  funext k
  by_cases h1 : k ∈ l.map (·.1)
  · rw [applyW_out (h k h1)]
    exact applyW_congr (.inl h1)
  · rw [applyW_out h1]
    refine applyW_congr (.inr ?_)
    exact applyW_out h1
theorem yld_frame {s s1 : St} {o : Oper} {e : Eff} (h : Yld C ops s o e) (ht : ∀ t ∈ o.looksAt ops, s1.tm t = s.tm t) (hk : ∀ k ∈ e.rd, s1.hp k = s.hp k) : Yld C ops s1 o e := by
  have hw : wantedA ops s1 o = wantedA ops s o := by
    unfold wantedA
    cases hg : o.guard with
    | none => rfl
    | some p =>
      obtain ⟨j, want⟩ := p
      simp only
      cases hd : (ops[j]?).bind (·.dst) with
      | none => rfl
      | some d =>
        simp only
        rw [ht d (by simp [Oper.looksAt, hg, hd])]
  rcases h with ⟨h1, h2⟩ | ⟨h1, h2⟩
  · exact .inl ⟨hw.trans h1, h2⟩
  · refine .inr ⟨hw.trans h1, ?_⟩
    have hc := vcOp_congr (C := C) (ρ := C.ev s1) (ρ' := C.ev s) (op := o.op) (hp := s1.hp) (· = e) (fun x hx => by
      cases x with
      | tmp t => exact ht t (by
          unfold Oper.looksAt
          refine List.mem_append_left _ (List.mem_filterMap.2 ⟨.tmp t, by simpa using hx, rfl⟩))
      | _ => rfl)
    rw [hc]
    exact vcOp_frame h2 hk
theorem step_comm (s : St) {o o' : Oper} {e e' : Eff} (hd : ∀ d, o.dst = some d → o'.dst ≠ some d) (hk : ∀ k ∈ e.wr.map (·.1), k ∉ e'.wr.map (·.1)) : (s.step o e).step o' e' = (s.step o' e').step o e := by
  have h1 : ∀ (s : St) (o : Oper) (e : Eff), (s.step o e).n = s.n := fun s o e => St.put_n s o.dst e.v
  have h2 : ∀ (s : St) (o : Oper) (e : Eff) t, (s.step o e).tm t = if o.dst = some t ∧ t < s.n then e.v else s.tm t := fun s o e t => St.put_tm s o.dst e.v t
  have h3 : ∀ (s : St) (o : Oper) (e : Eff), (s.step o e).hp = applyW s.hp e.wr := fun _ _ _ => rfl
  have ext : ∀ x y : St, x.n = y.n → x.np = y.np → x.tm = y.tm → x.hp = y.hp → x = y := by rintro ⟨_, _, _, _⟩ ⟨_, _, _, _⟩ rfl rfl rfl rfl; rfl
  have h4 : ∀ (s : St) (o : Oper) (e : Eff), (s.step o e).np = s.np := fun s o e => St.put_np s o.dst e.v
  refine ext _ _ (by rw [h1, h1, h1, h1]) (by rw [h4, h4, h4, h4]) ?_ (by rw [h3, h3, h3, h3]; exact applyW_comm hk)
  funext t
  rw [h2, h2, h2, h2, h1, h1]
  by_cases c1 : o'.dst = some t ∧ t < s.n
  · rw [if_pos c1]
    by_cases c2 : o.dst = some t ∧ t < s.n
    · exact absurd c1.1 (hd t c2.1)
    · rw [if_neg c2, if_pos c1]
  · rw [if_neg c1]
    by_cases c2 : o.dst = some t ∧ t < s.n
    · rw [if_pos c2, if_pos c2]
    · rw [if_neg c2, if_neg c2, if_neg c1]
theorem swap_run {p i : Nat} {op oi : Oper} {l : List Nat} {s s' : St} {fp fi : FP} {tr : List (Nat × FP)} (hp : ops[p]? = some op) (hi : ops[i]? = some oi) (hap : op.apart ops oi = true) (hd : disj fp fi = true)
    (h : RunR C ops (p :: i :: l) s ((p, fp) :: (i, fi) :: tr) s') : RunR C ops (i :: p :: l) s ((i, fi) :: (p, fp) :: tr) s' := by
  cases h with
  | cons _ _ _ _ o e _ ho hy hr =>
    rw [hp] at ho
    injection ho with ho
    subst ho
    cases hr with
    | cons _ _ _ _ o2 e2 _ ho2 hy2 hr2 =>
      rw [hi] at ho2
      injection ho2 with ho2
      subst ho2
      obtain ⟨a1, a2, a3⟩ := Oper.apart_spec hap
      obtain ⟨d1, d2⟩ := disj_spec hd
      have hy2' : Yld C ops s oi e2 := yld_frame (s1 := s) hy2 (fun t ht => by
        show s.tm t = (s.put op.dst e.v).tm t
        rw [St.put_tm, if_neg]
        rintro ⟨e', _⟩
        exact a1 t e' ht) (fun k hk => by
        show s.hp k = applyW s.hp e.wr k
        rw [applyW_out]
        intro hm
        exact (d1 k hm).1 hk)
      have hy' : Yld C ops (s.step oi e2) op e := yld_frame hy (fun t ht => by
        show (s.put oi.dst e2.v).tm t = s.tm t
        rw [St.put_tm, if_neg]
        rintro ⟨e', _⟩
        exact a3 t e' ht) (fun k hk => by
        show applyW s.hp e2.wr k = s.hp k
        rw [applyW_out]
        intro hm
        exact (d2 k hm).1 hk)
      refine .cons i _ s s' oi e2 _ hi hy2' (.cons p _ _ s' op e _ hp hy' ?_)
      rw [← step_comm s a2 (fun k hk hk' => (d1 k hk).2 hk')]
      exact hr2
end
end Go.Proofs.YtamllmoakgnjoaaDoor
/- Regions of the machine of plain values that draw their order; no program is named here. -/
namespace Go.Proofs.YtamllmoakgnjoaaDoor
open Go.RowKit
def aft (B : Array Nat) (j i : Nat) : Bool := (B.getD j 0).testBit i
def unionOf (B : Array Nat) (l : List Edge) : Nat := l.foldl (fun s e => if Region.binds .any e then s ||| 2 ^ e.on ||| B.getD e.on 0 else s) 0
/-- The masks tell no more than the edges, which point back. -/
def maskOk (ops : Array Oper) (B : Array Nat) : Bool :=
  (List.range ops.size).all fun j => match ops[j]? with
    | some o => (B.getD j 0 ||| unionOf B o.after.toList) == unionOf B o.after.toList && o.after.toList.all fun e => !Region.binds .any e || Nat.blt e.on j
    | none => true
def apartOk (ops : Array Oper) (B : Array Nat) : Bool :=
  (List.range ops.size).all fun j => (List.range j).all fun i => aft B j i || (match ops[i]?, ops[j]? with
    | some x, some y => x.apart ops y
    | _, _ => false)
def drawOk (ops : Array Oper) : Bool := maskOk ops (Region.before ops) && apartOk ops (Region.before ops)
def traceOk (ops : Array Oper) (tr : List FP) : Bool :=
  (tr.all fun f => f.2.isEmpty) || (tr.zipIdx.all fun y => tr.zipIdx.all fun x => !Nat.blt x.2 y.2 || aft (Region.before ops) y.2 x.2 || disj x.1 y.1)
theorem testBit_union (B : Array Nat) (p : Nat) : ∀ (l : List Edge) (s : Nat), (l.foldl (fun s e => if Region.binds .any e then s ||| 2 ^ e.on ||| B.getD e.on 0 else s) s).testBit p = true → s.testBit p = true ∨ ∃ e ∈ l, Region.binds .any e = true ∧ (p = e.on ∨ (B.getD e.on 0).testBit p = true)
  | [], s, h => .inl h
  | e :: l, s, h => by
    rw [List.foldl_cons] at h
    rcases testBit_union B p l _ h with h | ⟨e', he', h'⟩
    · by_cases hb : Region.binds .any e = true
      · rw [if_pos hb, Nat.testBit_or, Nat.testBit_or, Bool.or_eq_true, Bool.or_eq_true] at h
        rcases h with (h | h) | h
        · exact .inl h
        · refine .inr ⟨e, List.mem_cons_self, hb, .inl ?_⟩
          rw [Nat.testBit_two_pow] at h
          exact (of_decide_eq_true h).symm
        · exact .inr ⟨e, List.mem_cons_self, hb, .inr h⟩
      · rw [if_neg hb] at h
        exact .inl h
    · exact .inr ⟨e', List.mem_cons_of_mem _ he', h'⟩
section
variable {ops : Array Oper} {B : Array Nat}
theorem maskOk_spec (h : maskOk ops B = true) {j : Nat} {o : Oper} (hj : ops[j]? = some o) : (∀ e ∈ o.after, Region.binds .any e = true → e.on < j) ∧ ∀ p, aft B j p = true → ∃ e ∈ o.after, Region.binds .any e = true ∧ (p = e.on ∨ aft B e.on p = true) := by
  have hlt : j < ops.size := (Array.getElem?_eq_some_iff.1 hj).1
  have h1 := List.all_eq_true.1 h j (List.mem_range.2 hlt)
  simp only [hj, Bool.and_eq_true, beq_iff_eq, List.all_eq_true, Bool.or_eq_true, Bool.not_eq_true'] at h1
  refine ⟨fun e he hb => ?_, fun p hp => ?_⟩
  · rcases h1.2 e (by simpa using he) with h2 | h2
    · rw [hb] at h2; cases h2
    · rw [Nat.blt_eq] at h2; exact h2
  · have h2 : (unionOf B o.after.toList).testBit p = true := by
      rw [← h1.1, Nat.testBit_or, Bool.or_eq_true]; exact .inl hp
    rcases testBit_union B p _ _ h2 with h3 | ⟨e, he, hb, h3⟩
    · simp at h3
    · exact ⟨e, by simpa using he, hb, h3⟩
theorem anc_listed (h : maskOk ops B = true) {listed : Array Bool} (hc : Closed .any ops listed) : ∀ (j : Nat) (o : Oper), ops[j]? = some o → (∀ e ∈ o.after, Region.binds .any e = true → listed.getD e.on false = true) → ∀ p, aft B j p = true → listed.getD p false = true := by
  intro j
  induction j using Nat.strongRecOn with
  | ind j ih =>
    intro o hj hall p hp
    obtain ⟨h1, h2⟩ := maskOk_spec h hj
    obtain ⟨e, he, hb, h3⟩ := h2 p hp
    rcases h3 with rfl | h3
    · exact hall e he hb
    · have hon := hall e he hb
      have hlt : e.on < ops.size := by
        have := (Array.getElem?_eq_some_iff.1 hj).1
        have := h1 e he hb
        omega
      exact ih e.on (h1 e he hb) ops[e.on] (Array.getElem?_eq_getElem hlt) (fun e' he' hb' => hc e.on _ (Array.getElem?_eq_getElem hlt) hon e' he' hb') p h3
theorem apartOk_spec (h : apartOk ops B = true) {i j : Nat} {x y : Oper} (hx : ops[i]? = some x) (hy : ops[j]? = some y) (hij : i < j) (ha : aft B j i = false) : x.apart ops y = true := by
  have hlt : j < ops.size := (Array.getElem?_eq_some_iff.1 hy).1
  have h1 := List.all_eq_true.1 (List.all_eq_true.1 h j (List.mem_range.2 hlt)) i (List.mem_range.2 hij)
  simpa [hx, hy, ha] using h1
end
section
variable {C : Ctx} {w0 : World} {pb : Nat → Option Nat} {F0 : Nat → Nat → Prop} {ops : Array Oper} {B : Array Nat}
/-- Of two steps that aren't one behind the other neither looks at what the other one writes. -/
def PairOk (B : Array Nat) (tr : List (Nat × FP)) : Prop := ∀ x ∈ tr, ∀ y ∈ tr, x.1 < y.1 → aft B y.1 x.1 = false → disj x.2 y.2 = true
theorem run_front (hap : apartOk ops B = true) {i : Nat} {oi : Oper} (hi : ops[i]? = some oi) {l2 : List Nat} : ∀ (l1 : List Nat) (s s' : St) (tr : List (Nat × FP)), RunR C ops (l1 ++ i :: l2) s tr s' → (∀ p ∈ l1, p < i ∧ aft B i p = false) → PairOk B tr →
    ∃ fi tr', RunR C ops (i :: (l1 ++ l2)) s ((i, fi) :: tr') s' ∧ ∀ x, x ∈ ((i, fi) :: tr') ↔ x ∈ tr
  | [], s, s', tr, h, _, _ => by
    cases h with
    | cons _ _ _ _ o e tr' ho hy hr => exact ⟨e.fp, tr', .cons i _ s s' o e tr' ho hy hr, fun _ => Iff.rfl⟩
  | p :: l1, s, s', tr, h, hp, hok => by
    cases h with
    | cons _ _ _ _ o e tr' ho hy hr =>
      obtain ⟨fi, tr2, h1, h2⟩ := run_front hap hi l1 _ s' tr' hr (fun q hq => hp q (List.mem_cons_of_mem _ hq)) (fun x hx y hy => hok x (List.mem_cons_of_mem _ hx) y (List.mem_cons_of_mem _ hy))
      have hpi := hp p List.mem_cons_self
      have hd : disj e.fp fi = true := hok (p, e.fp) List.mem_cons_self (i, fi) (List.mem_cons_of_mem _ ((h2 _).1 List.mem_cons_self)) hpi.1 hpi.2
      refine ⟨fi, (p, e.fp) :: tr2, swap_run ho hi (apartOk_spec hap ho hi hpi.1 hpi.2) hd (.cons p _ s s' o e _ ho hy h1), fun x => ?_⟩
      have := h2 x
      simp only [List.mem_cons] at this ⊢
      rw [← this]
      constructor
      · rintro (h | h | h)
        · exact .inr (.inl h)
        · exact .inl h
        · exact .inr (.inr h)
      · rintro (h | h | h)
        · exact .inr (.inl h)
        · exact .inl h
        · exact .inr (.inr h)
theorem any_sound (hB : maskOk ops B = true) (hap : apartOk ops B = true) {Q : Exit → Act → World → Prop} : ∀ (fuel : Nat) (L : List Nat) (s s' : St) (tr : List (Nat × FP)) (listed : Array Bool) (a : Act) (E : Env), L.length = fuel → L.Pairwise (· < ·) → (∀ i, i ∈ L ↔ i < ops.size ∧ listed.getD i false = false) → listed.size = ops.size → Closed .any ops listed →
    RunR C ops L s tr s' → PairOk B tr → RelS C w0 pb F0 s a E → (∀ a' E', RelS C w0 pb F0 s' a' E' → Q .normal a' E'.w) → wpAny C.P .any ops Q fuel listed a E.w
  | 0, L, s, s', tr, listed, a, E, hl, _, hL, _, _, hr, _, h, hq => by
    have : L = [] := List.eq_nil_of_length_eq_zero hl
    subst this
    cases hr
    refine ⟨?_, hq _ _ h⟩
    apply List.eq_nil_iff_forall_not_mem.2
    intro i hi
    obtain ⟨hun, o, ho, _⟩ := mem_ready.1 hi
    have hlt : i < ops.size := (Array.getElem?_eq_some_iff.1 ho).1
    have : listed.getD i false = false := by
      simp only [Array.getD_eq_getD_getElem?] at hun ⊢
      cases hq' : listed[i]? with
      | none => rfl
      | some b => rw [hq'] at hun; simpa using hun
    exact absurd ((hL i).2 ⟨hlt, this⟩) (by simp)
  | fuel + 1, L, s, s', tr, listed, a, E, hl, hso, hL, hsz, hcl, hr, hok, h, hq => by
    have hun : ∀ i, i ∈ Region.ready .any ops listed → i ∈ L := fun i hi => by
      obtain ⟨hun, o, ho, _⟩ := mem_ready.1 hi
      have hlt : i < ops.size := (Array.getElem?_eq_some_iff.1 ho).1
      refine (hL i).2 ⟨hlt, ?_⟩
      simp only [Array.getD_eq_getD_getElem?] at hun ⊢
      cases hq' : listed[i]? with
      | none => rfl
      | some b => rw [hq'] at hun; simpa using hun
    constructor
    · intro h0
      exfalso
      cases L with
      | nil => simp at hl
      | cons i l =>
        have hi := (hL i).1 List.mem_cons_self
        obtain ⟨h1, _⟩ := maskOk_spec hB (Array.getElem?_eq_getElem hi.1)
        have : i ∈ Region.ready .any ops listed := by
          refine mem_ready.2 ⟨?_, ops[i], Array.getElem?_eq_getElem hi.1, fun e he hb => ?_⟩
          · have h2 := hi.2
            have hlt : i < listed.size := by rw [hsz]; exact hi.1
            simpa [Array.getD, hlt] using h2
          · have hon := h1 e he hb
            apply Classical.byContradiction
            intro hne
            have hne : listed.getD e.on false = false := by simpa using hne
            have hm := (hL e.on).2 ⟨by omega, hne⟩
            rcases List.mem_cons.1 hm with hm | hm
            · omega
            · have := (List.pairwise_cons.1 hso).1 _ hm
              omega
        rw [h0] at this
        cases this
    · intro i hi
      have hiL := hun i hi
      obtain ⟨l1, l2, rfl⟩ := List.append_of_mem hiL
      obtain ⟨hun', oi, hoi, hall⟩ := mem_ready.1 hi
      have hilt : i < ops.size := (Array.getElem?_eq_some_iff.1 hoi).1
      have hp : ∀ p ∈ l1, p < i ∧ aft B i p = false := fun p hpm => by
        refine ⟨(List.pairwise_append.1 hso).2.2 p hpm i List.mem_cons_self, ?_⟩
        apply Classical.byContradiction
        intro hne
        have hne : aft B i p = true := by simpa using hne
        have h1 := anc_listed hB hcl i oi hoi hall p hne
        have h2 := ((hL p).1 (List.mem_append_left _ hpm)).2
        rw [h1] at h2
        cases h2
      obtain ⟨fi, tr', hr', hmem⟩ := run_front hap hoi l1 s s' tr hr hp hok
      cases hr' with
      | cons _ _ _ _ o e _ ho hy hr2 =>
        rw [hoi] at ho
        injection ho with ho
        subst ho
        refine yld_sound h hoi hy fun a' E' h' => ?_
        have hnd : (l1 ++ i :: l2).Nodup := hso.imp (fun h => Nat.ne_of_lt h)
        have hni : i ∉ l1 ++ l2 := by
          have := List.nodup_append.1 hnd
          intro hm
          rcases List.mem_append.1 hm with hm | hm
          · exact this.2.2 i hm i List.mem_cons_self rfl
          · exact (List.nodup_cons.1 this.2.1).1 hm
        refine any_sound hB hap fuel (l1 ++ l2) _ s' tr' _ a' E' ?_ ?_ (fun k => ?_) (by simpa using hsz) (hcl.set hi) hr2 (fun x hx y hy => hok x ((hmem x).1 (List.mem_cons_of_mem _ hx)) y ((hmem y).1 (List.mem_cons_of_mem _ hy))) h' hq
        · simp only [List.length_append, List.length_cons] at hl ⊢; omega
        · exact hso.sublist (List.Sublist.append_left (List.sublist_cons_self i l2) l1)
        · have := hL k
          by_cases hk : k = i
          · subst hk
            refine ⟨fun hm => absurd hm hni, fun hm => ?_⟩
            have h2 := hm.2
            have hlt : k < listed.size := by rw [hsz]; exact hilt
            simp [Array.getD, hlt] at h2
          · have e1 : (listed.setIfInBounds i true).getD k false = listed.getD k false := by
              simp only [Array.getD_eq_getD_getElem?]
              rw [Array.getElem?_setIfInBounds_ne (fun e => hk e.symm)]
            rw [e1, ← this]
            simp only [List.mem_append, List.mem_cons]
            constructor
            · rintro (h | h)
              · exact .inl h
              · exact .inr (.inr h)
            · rintro (h | h | h)
              · exact .inl h
              · exact absurd h hk
              · exact .inr h
theorem run_idx {l : List Nat} {s s' : St} {tr : List (Nat × FP)} (h : RunR C ops l s tr s') : tr.map (·.1) = l := by
  induction h with
  | nil => rfl
  | cons i l s s' o e tr hi hy h ih => rw [List.map_cons, ih]
theorem traceOk_spec {tr : List (Nat × FP)} {n : Nat} (hidx : tr.map (·.1) = List.range n) (h : traceOk ops (tr.map (·.2)) = true) : PairOk (Region.before ops) tr := by
  intro x hx y hy hlt ha
  have hz : ∀ x ∈ tr, (x.2, x.1) ∈ (tr.map (·.2)).zipIdx := fun x hx => by
    obtain ⟨j, hj, rfl⟩ := List.mem_iff_getElem.1 hx
    have e1 : tr[j].1 = j := by
      have h1 : (tr.map (·.1))[j]? = some tr[j].1 := by simp [hj]
      rw [hidx] at h1
      have hjn : j < n := by have := congrArg List.length hidx; simp at this; omega
      rw [List.getElem?_range hjn] at h1
      exact (Option.some.inj h1).symm
    rw [List.mem_iff_getElem]
    refine ⟨j, by simpa using hj, ?_⟩
    simp [e1]
  simp only [traceOk, Bool.or_eq_true] at h
  rcases h with h | h
  · have h1 := List.all_eq_true.1 h x.2 (List.mem_map.2 ⟨x, hx, rfl⟩)
    have h2 := List.all_eq_true.1 h y.2 (List.mem_map.2 ⟨y, hy, rfl⟩)
    have e1 : x.2.2 = [] := by simpa using h1
    have e2 : y.2.2 = [] := by simpa using h2
    simp [disj, e1, e2]
  · have h1 := List.all_eq_true.1 (List.all_eq_true.1 h _ (hz y hy)) _ (hz x hx)
    simp only [Bool.or_eq_true, Bool.not_eq_true'] at h1
    rcases h1 with (h1 | h1) | h1
    · exact absurd hlt (nblt_false h1)
    · rw [ha] at h1; cases h1
    · exact h1
theorem run_n {l : List Nat} {s s' : St} {tr : List (Nat × FP)} (h : RunR C ops l s tr s') : s'.n = s.n ∧ s'.np = s.np := by
  induction h with
  | nil => exact ⟨rfl, rfl⟩
  | cons i l s s' o e tr hi hy h ih => exact ⟨ih.1.trans (St.put_n s o.dst e.v), ih.2.trans (St.put_np s o.dst e.v)⟩
theorem region_draw {id : Nat} {Q : Exit → Act → World → Prop} {Qs : St → Prop} {s : St} {a : Act} {E : Env} (hm : C.P.follows .mixedOrders = true) (hst : drawOk ops = true) (h : RelS C w0 pb F0 s a E) (hv : vcRun C ops ops.toList s [] fun s' tr => traceOk ops tr.reverse = true ∧ Qs s')
    (hq : ∀ s' a' E', Qs s' → (s'.n = s.n ∧ s'.np = s.np) → RelS C w0 pb F0 s' a' E' → Q .normal a' E'.w) : (Code.region id ops true).wp C.P Q a E.w := by
  refine wp_region_any hm ?_
  obtain ⟨tr, s', hr, hk⟩ := run_of_vc ops.toList 0 s [] (fun j => by simp) hv
  obtain ⟨hR, hle⟩ := h.h.drew
  have h' : RelS C w0 pb F0 s a ⟨E.w.drew, E.F, E.β, E.O⟩ := ⟨hR, h.d, h.n, h.np, fun t => (h.t t).le hle⟩
  simp only [drawOk, Bool.and_eq_true] at hst
  have hrange : List.range' 0 ops.toList.length = List.range ops.size := by rw [List.range_eq_range']; simp
  rw [hrange] at hr
  simp only [List.append_nil, List.reverse_reverse] at hk
  refine any_sound hst.1 hst.2 ops.size (List.range ops.size) s s' tr _ a _ (by simp) (List.pairwise_lt_range) (fun i => ?_) (by simp) (fun j oj _ hl => by rw [getD_replicate_false] at hl; cases hl) hr (traceOk_spec (run_idx hr) hk.1) h' (fun a' E' h' => hq s' a' E' hk.2 (run_n hr) h')
  rw [getD_replicate_false]
  simp
theorem region_seq {id : Nat} {Q : Exit → Act → World → Prop} {Qs : St → Prop} {s : St} {a : Act} {E : Env} (h : RelS C w0 pb F0 s a E) (hv : vcRun C ops ops.toList s [] fun s' _ => Qs s')
    (hq : ∀ s' a' E', Qs s' → (s'.n = s.n ∧ s'.np = s.np) → RelS C w0 pb F0 s' a' E' → Q .normal a' E'.w) : (Code.region id ops false).wp C.P Q a E.w := by
  refine wp_region ?_
  obtain ⟨tr, s', hr, hk⟩ := run_of_vc ops.toList 0 s [] (fun j => by simp) hv
  have hrange : List.range' 0 ops.toList.length = List.range ops.size := by rw [List.range_eq_range']; simp
  rw [hrange] at hr
  exact seq_sound hr h fun a' E' h' => hq s' a' E' hk (run_n hr) h'
end
end Go.Proofs.YtamllmoakgnjoaaDoor
/- Code of the machine of plain values, loops, and what a function's body says of its calls; no program is named here. -/
namespace Go.Proofs.YtamllmoakgnjoaaDoor
open Go.RowKit
def look : List (Nat × HC) → Nat → HC
  | [], _ => .none
  | (k, c) :: l, i => match Nat.beq i k with
    | true => c
    | false => look l i
/-- A state by its slots, the next number, and what is under numbers. -/
def mkS (n np : Nat) (l : List PV) (m : Nat) (h : List (Nat × HC)) : St := ⟨n, np, fun t => l.getD t .top, fun b => match b with | 0 => .num m | b + 1 => look h (b + 1)⟩
def slotsOk (s : St) : Nat → List PV → Prop
  | _, [] => True
  | t, .top :: l => slotsOk s (t + 1) l
  | t, p :: l => s.tm t = p ∧ slotsOk s (t + 1) l
def heapOk (s : St) : List (Nat × HC) → Prop
  | [] => True
  | (b, c) :: l => s.hp b = c ∧ heapOk s l
def PV.bnd1 (m : Nat) : PV → Bool
  | .ptr b _ => Nat.blt b m
  | .sl (.own t) _ => Nat.blt t m
  | .agg _ => false
  | .tup _ => false
  | _ => true
def PV.bnd (m : Nat) : PV → Bool
  | .agg cs => cs.all (PV.bnd1 m)
  | .tup cs => cs.all fun c => match c with | .agg ds => ds.all (PV.bnd1 m) | c => c.bnd1 m
  | c => c.bnd1 m
def heapBnd (m : Nat) : List (Nat × HC) → Bool
  | [] => true
  | (b, c) :: l => Nat.blt 0 b && Nat.blt b m && (match c with
    | .cells cs => cs.all (PV.bnd1 m)
    | .row _ _ => true
    | _ => false) && heapBnd m l
/-- The other state says less: slots are forgotten, and numbers. -/
def Sub (s : St) (l : List PV) (m : Nat) (h : List (Nat × HC)) : Prop :=
  slotsOk s 0 l ∧ heapOk s h ∧ (Nat.blt s.np m && l.all (PV.bnd m) && heapBnd m h) = true
abbrev Inv := Nat → List PV → Nat → List (Nat × HC) → Prop
/-- A loop: an invariant of states, each with how long it goes on at most. -/
inductive vcLoop (body : (Exit → St → Prop) → St → Prop) (Q : Exit → St → Prop) (s : St) : Prop
  | mk (I : Inv) (h0 : ∃ k l m h, Sub s l m h ∧ I k l m h) (h1 : ∀ k l m h, I k l m h → body (fun e s' => match e with
    | .normal => ∃ k' l' m' h', k' < k ∧ Sub s' l' m' h' ∧ I k' l' m' h'
    | e => Q e s') (mkS s.n s.np l m h)) : vcLoop body Q s
def vcC (C : Ctx) : Code → (Exit → St → Prop) → St → Prop
  | .skip, Q, s => Q .normal s
  | .label _, Q, s => Q .normal s
  | .region _ ops draw, Q, s => match draw with
    | false => vcRun C ops ops.toList s [] fun s' _ => Q .normal s'
    | true => drawOk ops = true ∧ vcRun C ops ops.toList s [] fun s' tr => traceOk ops tr.reverse = true ∧ Q .normal s'
  | .seq x y, Q, s => vcC C x (fun e s' => match e with
    | .normal => vcC C y Q s'
    | e => Q e s') s
  | .cond c x y, Q, s => match C.ev s c with
    | .v (.bool b) => bsplit b (vcC C x Q s) (vcC C y Q s)
    | _ => False
  | .block id c, Q, s => vcC C c (fun e s' => match e with
    | .exit id' => match Nat.beq id' id with
      | true => Q .normal s'
      | false => Q (.exit id') s'
    | e => Q e s') s
  | .loop c, Q, s => vcLoop (vcC C c) Q s
  | .exit id, Q, s => Q (.exit id) s
  | .ret, Q, s => Q .ret s
  | _, _, _ => False
theorem look_ok {s : St} : ∀ {h : List (Nat × HC)} {m : Nat}, heapOk s h → heapBnd m h = true → ∀ b, look h b = .none ∨ (look h b = s.hp b ∧ 0 < b ∧ b < m ∧ (∀ k, look h b ≠ .num k) ∧ ∀ cs, look h b = .cells cs → cs.all (PV.bnd1 m) = true)
  | [], _, _, _, _ => .inl rfl
  | (k, c) :: l, m, h, hb, b => by
    simp only [heapBnd, Bool.and_eq_true] at hb
    unfold look
    split
    · rename_i e
      have e := Nat.eq_of_beq_eq_true e
      subst e
      have h1 := hb.1.1.1
      have h2 := hb.1.1.2
      rw [Nat.blt_eq] at h1 h2
      refine .inr ⟨h.1.symm, h1, h2, fun q hq => ?_, fun cs hcs => ?_⟩
      · subst hq; have := hb.1.2; simp at this
      · subst hcs; exact hb.1.2
    · exact look_ok h.2 hb.2 b
theorem slots_ok {s : St} : ∀ {l : List PV} {t : Nat}, slotsOk s t l → ∀ i, l.getD i .top = .top ∨ l.getD i .top = s.tm (t + i)
  | [], _, _, _ => .inl (by simp)
  | p :: l, t, h, i => by
    have hl : slotsOk s (t + 1) l := by cases p <;> first | exact h.2 | exact h
    cases i with
    | zero =>
      cases p <;> first | exact .inl rfl | exact .inr h.1.symm
    | succ i =>
      have := slots_ok hl i
      rw [show t + 1 + i = t + (i + 1) by omega] at this
      simpa [List.getD] using this
section
variable {C : Ctx} {w0 : World} {pb : Nat → Option Nat} {F0 : Nat → Nat → Prop} {s : St} {a : Act} {E : Env}
/-- Numbers from m on are forgotten. -/
def Env.cut (E : Env) (m : Nat) : Env := ⟨E.w, E.F, fun b => if b < m then E.β b else none, fun b => if b < m then E.O b else none⟩
theorem Rep.cut1 {m : Nat} {p : PV} {x : Value} (r : Rep E p x) (h : p.bnd1 m = true) : Rep (E.cut m) p x := by
  cases p with
  | v y => rw [show x = y by cases r; rfl]; exact .v _
  | top => exact .top _
  | ptr b off =>
    cases r with
    | ptr _ _ g hg =>
      have hb : b < m := Nat.blt_eq ▸ h
      exact .ptr b off g ((if_pos hb).trans hg)
  | ro cs => cases r with | ro _ g o val hc hr => exact .ro cs g o val hc hr
  | sl k es =>
    cases r with
    | sl _ _ A c g o sz val h1 h2 h3 h4 h5 h6 hc hr =>
      refine .sl k es A c g o sz val h1 h2 h3 (fun t ht => ?_) h5 h6 hc hr
      subst ht
      have hb : t < m := Nat.blt_eq ▸ h
      obtain ⟨v, n, e, q⟩ := h4 t rfl
      exact ⟨v, n, (if_pos hb).trans e, q⟩
  | _ => simp [PV.bnd1] at h
theorem Rep.cut {m : Nat} {p : PV} {x : Value} (r : Rep E p x) (h : p.bnd m = true) : Rep (E.cut m) p x := by
  cases p with
  | agg cs =>
    cases r with
    | agg _ vs hl hr =>
      refine .agg _ _ hl fun i hi => (hr i hi).cut1 ?_
      rw [getD_eq hi]
      exact List.all_eq_true.1 h _ (List.getElem_mem hi)
  | tup cs =>
    cases r with
    | tup _ vs hl hr =>
      refine .tup _ _ hl fun i hi => ?_
      have h1 := List.all_eq_true.1 h cs[i] (List.getElem_mem hi)
      have h2 := hr i hi
      rw [getD_eq hi] at h2 ⊢
      generalize cs[i] = q at *
      generalize vs.getD i undef = z at *
      cases q with
      | agg ds =>
        cases h2 with
        | agg _ us hl' hr' =>
          refine .agg _ _ hl' fun j hj => (hr' j hj).cut1 ?_
          rw [getD_eq hj]
          exact List.all_eq_true.1 h1 _ (List.getElem_mem hj)
      | _ => exact h2.cut1 h1
  | _ => exact r.cut1 h
theorem RelS.sub (h : RelS C w0 pb F0 s a E) {l : List PV} {m : Nat} {hp : List (Nat × HC)} (hs : Sub s l m hp) : RelS C w0 pb F0 (mkS s.n s.np l m hp) a (E.cut m) := by
  obtain ⟨h1, h2, h3⟩ := hs
  simp only [Bool.and_eq_true] at h3
  have hnpm : s.np < m := Nat.blt_eq ▸ h3.1.1
  have hm : 0 < m := by omega
  have hlk := look_ok h2 h3.2
  have hhp : ∀ b, b ≠ 0 → (mkS s.n s.np l m hp).hp b = look hp b := fun b hb => by
    cases b with
    | zero => exact absurd rfl hb
    | succ b => rfl
  have hβ : ∀ b, b < m → (E.cut m).β b = E.β b := fun b hb => if_pos hb
  have hO : ∀ b, b < m → (E.cut m).O b = E.O b := fun b hb => if_pos hb
  have hβn : ∀ b g, (E.cut m).β b = some g → b < m ∧ E.β b = some g := fun b g hb => by
    by_cases hlt : b < m
    · exact ⟨hlt, (hβ b hlt).symm.trans hb⟩
    · have : (E.cut m).β b = none := if_neg hlt
      rw [this] at hb; cases hb
  refine ⟨⟨⟨h.h.b.gp, h.h.b.gpk, h.h.b.os, h.h.b.tape, h.h.b.output, h.h.b.size, h.h.b.old, h.h.b.gsz, h.h.b.glob, h.h.b.Fin, h.h.b.Fsub, h.h.b.pbin, fun b g hb => (hβ b (Nat.lt_of_le_of_lt (h.np b g hb) hnpm)).trans (h.h.b.kp b g hb)⟩, ?_⟩, h.d, h.n, h.np, fun t => ?_⟩
  · refine ⟨⟨m, rfl, hm, fun b hb => ⟨if_neg (by omega), if_neg (by omega), ?_⟩⟩, fun b cs hb hc => ?_, fun b g hb => ?_, fun b b' g hb hb' => ?_, fun b g i hb hf => ?_, fun t n e ht hrow => ?_⟩
    · rw [hhp b (by omega)]
      rcases hlk b with h0 | h0
      · exact h0
      · have := h0.2.2.1
        omega
    · rw [hhp b hb] at hc
      rcases hlk b with h0 | ⟨q1, q2, q3, _, q5⟩
      · rw [h0] at hc; cases hc
      · have hall := List.all_eq_true.1 (q5 cs hc)
        rw [q1] at hc
        obtain ⟨g, T, vs, e1, e2, e3, e4⟩ := h.h.o.box b cs hb hc
        refine ⟨g, T, vs, (hβ b q3).trans e1, e2, ⟨e3.1, fun i hi => ?_⟩, e4⟩
        have := e3.2 i hi
        rw [getD_eq hi] at this ⊢
        exact this.cut1 (hall _ (List.getElem_mem hi))
    · obtain ⟨_, hb⟩ := hβn b g hb
      exact h.h.o.bnew b g hb
    · exact h.h.o.binj b b' g (hβn b g hb).2 (hβn b' g hb').2
    · exact h.h.o.bF b g i (hβn b g hb).2 hf
    · rw [hhp t ht] at hrow
      rcases hlk t with h0 | ⟨q1, q2, q3, _⟩
      · rw [h0] at hrow; cases hrow
      · rw [q1] at hrow
        obtain ⟨A, c, e1, e2, e3, e4⟩ := h.h.o.own t n e ht hrow
        refine ⟨A, c, (hO t q3).trans e1, e2, e3, ?_⟩
        rcases e4 with e4 | ⟨g, cur, sz, p1, p2, p3, p4, p5, p6, p7, p8⟩
        · exact .inl e4
        · refine .inr ⟨g, cur, sz, p1, p2, p3, p4, p5, p6, fun b hb => p7 b (hβn b g hb).2, fun t' n' e' o' c' ht' hrow' ho' hc' => ?_⟩
          rw [hhp t' ht'] at hrow'
          rcases hlk t' with h0 | ⟨r1, r2, r3, _⟩
          · rw [h0] at hrow'; cases hrow'
          · rw [r1] at hrow'
            rw [hO t' r3] at ho'
            exact p8 t' n' e' o' c' ht' hrow' ho' hc'
  · show Rep (E.cut m) (l.getD t .top) _
    rcases slots_ok h1 t with h0 | h0
    · rw [h0]; exact .top _
    · by_cases hlt : t < l.length
      · have hb := List.all_eq_true.1 h3.1.2 l[t] (List.getElem_mem hlt)
        rw [Nat.zero_add] at h0
        have := h.t t
        rw [← h0] at this
        refine this.cut ?_
        rw [getD_eq hlt]
        exact hb
      · rw [show l.getD t .top = .top by simp [List.getD, hlt]]
        exact .top _
/-- What holds of a state at an exit holds of the model's. -/
def QC (C : Ctx) (w0 : World) (pb : Nat → Option Nat) (F0 : Nat → Nat → Prop) (n np : Nat) (Q : Exit → St → Prop) (e : Exit) (a : Act) (w : World) : Prop :=
  ∃ s E, E.w = w ∧ (s.n = n ∧ s.np = np) ∧ RelS C w0 pb F0 s a E ∧ Q e s
theorem least {p : Nat → Prop} (h : ∃ n, p n) : ∃ n, p n ∧ ∀ m, p m → n ≤ m := by
  obtain ⟨n, hn⟩ := h
  induction n using Nat.strongRecOn with
  | ind n ih =>
    by_cases hm : ∃ m, m < n ∧ p m
    · obtain ⟨m, h1, h2⟩ := hm
      exact ih m h1 h2
    · exact ⟨n, hn, fun m h => by
        rcases Nat.lt_or_ge m n with hlt | hge
        · exact absurd ⟨m, hlt, h⟩ hm
        · exact hge⟩
/-- A loop, by an invariant that tells how long it goes on at most. -/
theorem wp_loop_at {P : Program} {c : Code} {Q : Exit → Act → World → Prop} {a : Act} {w : World} (I : Nat → Act → World → Prop) (h0 : ∃ n, I n a w) (round : ∀ n a w, I n a w → c.wp P (Exit.then (fun a' w' => ∃ n', n' < n ∧ I n' a' w') Q) a w) : (Code.loop c).wp P Q a w := by
  classical
  refine wp_loop (fun a w => ∃ n, I n a w) (fun a w => if h : ∃ n, I n a w then Classical.choose (least h) else 0) h0 fun a w hI => ?_
  have h1 := Classical.choose_spec (least hI)
  simp only [dif_pos hI]
  generalize Classical.choose (least hI) = n at *
  refine wp_mono (round n a w h1.1) fun e a' w' hq => ?_
  cases e with
  | normal =>
    obtain ⟨n', hlt, hI'⟩ := hq
    have hex : ∃ n, I n a' w' := ⟨n', hI'⟩
    refine ⟨hex, ?_⟩
    simp only [dif_pos hex]
    have h2 := (Classical.choose_spec (least hex)).2 n' hI'
    omega
  | _ => exact hq
theorem code_sound (hm : C.P.follows .mixedOrders = true) : ∀ (c : Code) (Q : Exit → St → Prop) (s : St) (a : Act) (E : Env), vcC C c Q s → RelS C w0 pb F0 s a E → c.wp C.P (QC C w0 pb F0 s.n s.np Q) a E.w := by
  intro c
  induction c with
  | skip => intro Q s a E hv h; exact wp_skip ⟨s, E, rfl, ⟨rfl, rfl⟩, h, hv⟩
  | label l => intro Q s a E hv h; exact wp_label ⟨s, E, rfl, ⟨rfl, rfl⟩, h, hv⟩
  | region id ops draw =>
    intro Q s a E hv h
    cases draw with
    | false => exact region_seq h hv fun s' a' E' hq hn h' => ⟨s', E', rfl, hn, h', hq⟩
    | true => exact region_draw hm hv.1 h hv.2 fun s' a' E' hq hn h' => ⟨s', E', rfl, hn, h', hq⟩
  | seq x y ihx ihy =>
    intro Q s a E hv h
    refine wp_seq (wp_mono (ihx _ s a E hv h) fun e a' w' hq => ?_)
    obtain ⟨s', E', rfl, hn, h', hq⟩ := hq
    cases e with
    | normal => rw [← hn.1, ← hn.2]; exact ihy Q s' a' E' hq h'
    | _ => exact ⟨s', E', rfl, hn, h', hq⟩
  | cond c x y ihx ihy =>
    intro Q s a E hv h
    unfold vcC at hv
    split at hv
    · rename_i b hb
      have hc := h.ev c
      rw [hb] at hc
      have hc := hc.v_eq
      cases b
      · exact wp_cond_false hc (ihy Q s a E (hv.2 rfl) h)
      · exact wp_cond_true hc (ihx Q s a E (hv.1 rfl) h)
    · exact hv.elim
  | block id c ih =>
    intro Q s a E hv h
    refine wp_block (wp_mono (ih _ s a E hv h) fun e a' w' hq => ?_)
    obtain ⟨s', E', rfl, hn, h', hq⟩ := hq
    cases e with
    | exit id' =>
      simp only [Exit.inBlock]
      simp only at hq
      split at hq
      · rename_i e
        rw [if_pos (Nat.eq_of_beq_eq_true e)]
        exact ⟨s', E', rfl, hn, h', hq⟩
      · rename_i e
        rw [if_neg (fun e' => by rw [e', Nat.beq_refl] at e; cases e)]
        exact ⟨s', E', rfl, hn, h', hq⟩
    | _ => exact ⟨s', E', rfl, hn, h', hq⟩
  | loop c ih =>
    intro Q s a E hv h
    obtain ⟨I, ⟨k, l, m, hp, hs, hI⟩, hbody⟩ := hv
    refine wp_loop_at (fun k a w => ∃ l m hp E, E.w = w ∧ I k l m hp ∧ RelS C w0 pb F0 (mkS s.n s.np l m hp) a E) ⟨k, l, m, hp, E.cut m, rfl, hI, h.sub hs⟩ fun k a w => ?_
    rintro ⟨l, m, hp, E, rfl, hI, h⟩
    refine wp_mono (ih _ _ a E (hbody k l m hp hI) h) fun e a' w' hq => ?_
    obtain ⟨s', E', rfl, hn, h', hq⟩ := hq
    cases e with
    | normal =>
      obtain ⟨k', l', m', hp', hlt, hs', hI'⟩ := hq
      have := h'.sub hs'
      rw [hn.1, hn.2] at this
      exact ⟨k', hlt, l', m', hp', E'.cut m', rfl, hI', this⟩
    | _ => exact ⟨s', E', rfl, hn, h', hq⟩
  | exit id => intro Q s a E hv h; exact wp_exit ⟨s, E, rfl, ⟨rfl, rfl⟩, h, hv⟩
  | ret => intro Q s a E hv h; exact wp_ret ⟨s, E, rfl, ⟨rfl, rfl⟩, h, hv⟩
  | _ => intro Q s a E hv; exact hv.elim
end
end Go.Proofs.YtamllmoakgnjoaaDoor
/- What a function's body, run by the machine of plain values, says of its calls; no program is named here. -/
namespace Go.Proofs.YtamllmoakgnjoaaDoor
open Go.RowKit
def PV.demR : PV → PV
  | .tup cs => .tup (cs.map PV.dem)
  | x => x.dem
theorem Rep.demR {E : Env} {p : PV} {x : Value} (r : Rep E p x) : Rep E p.demR x := by
  cases p with
  | tup cs =>
    cases r with
    | tup _ vs hl h =>
      refine .tup _ vs (by simpa using hl) fun i hi => ?_
      have hi' : i < cs.length := by simpa using hi
      have := (h i hi').dem
      rw [getD_eq hi'] at this
      rw [getD_eq hi]
      simpa using this
  | _ => exact r.dem
def resOne (C : Ctx) (s : St) (x : ResultVar) (K : PV → Prop) : Prop :=
  match x with
  | .tmp t => K (s.tm t)
  | .cell a ty => match s.tm a with
    | .ptr b off => match s.hp b with
      | .cells cs => b ≠ 0 ∧ vcPart C.P ty cs off K
      | _ => False
    | _ => False
def resAll (C : Ctx) (s : St) : List ResultVar → (List PV → Prop) → Prop
  | [], K => K []
  | x :: l, K => resOne C s x fun p => resAll C s l fun ps => K (p :: ps)
def one : List PV → PV
  | [p] => p
  | ps => .tup ps
def outsOk (s : St) : Nat → List (List PV) → Prop
  | _, [] => True
  | b, o :: l => (match s.hp b with
    | .cells cs => cs.all PV.leaf = true ∧ cs.map PV.dem1 = o
    | _ => False) ∧ outsOk s (b + 1) l
inductive EndOk (s : St) (p r : PV) (outs : List (List PV)) : Prop
  | mk (h : p.demR = r) (ho : outsOk s 1 outs)
/-- At the end: the results, and the boxes that came in. -/
def vcEnd (C : Ctx) (fn : Func) (r : PV) (outs : List (List PV)) (e : Exit) (s : St) : Prop :=
  match e with
  | .normal | .ret => resAll C s fn.results.toList (fun ps => EndOk s (one ps) r outs)
  | _ => False
def insHeap (ins : List (List PV)) : Nat → List (Nat × HC)
  | k => match ins with
    | [] => []
    | c :: l => (k, .cells c) :: insHeap l (k + 1)
def entry (fn : Func) (ars : List PV) (ins : List (List PV)) : St := mkS (ars.length + (fn.ntmps - ars.length)) ins.length ars (ins.length + 1) (insHeap ins 1)
theorem look_ins (b : Nat) : ∀ (ins : List (List PV)) (k : Nat), look (insHeap ins k) b = if k ≤ b ∧ b < k + ins.length then .cells (ins.getD (b - k) []) else .none
  | [], k => by rw [if_neg (by simp only [List.length_nil]; omega)]; rfl
  | c :: l, k => by
    unfold insHeap look
    by_cases h : b = k
    · subst h
      rw [if_pos (by simp only [List.length_cons]; omega)]
      simp [List.getD]
    · rw [nbeq_false h]
      simp only
      rw [look_ins b l (k + 1)]
      simp only [List.length_cons]
      by_cases hin : k + 1 ≤ b ∧ b < k + 1 + l.length
      · rw [if_pos hin, if_pos (by omega)]
        rw [show b - k = (b - (k + 1)) + 1 by omega]
        simp [List.getD]
      · rw [if_neg hin, if_neg (by omega)]
section
variable {C : Ctx} {w0 : World} {pb : Nat → Option Nat} {F0 : Nat → Nat → Prop} {s : St} {a : Act} {E : Env}
def rdRes (tmps : Array Value) : ResultVar → Sem Value
  | .tmp t => pure (tmps.getD t undef)
  | .cell b t => do loadVar t (← asAddr (tmps.getD b undef))
theorem results_eq (fn : Func) (tmps : Array Value) : results fn tmps = (do let vs ← fn.results.mapM (rdRes tmps); pure (if h : vs.size = 1 then vs[0] else .tuple vs)) := by
  unfold results
  have e : (fun x : ResultVar => match x with
    | .tmp t => pure (tmps.getD t undef)
    | .cell b t => (do loadVar t (← asAddr (tmps.getD b undef)) : Sem Value)) = rdRes tmps := by
    funext x
    cases x <;> rfl
  exact congrArg (fun g => (do let vs ← fn.results.mapM g; pure (if h : vs.size = 1 then vs[0] else .tuple vs) : Sem Value)) e
theorem Rep.ptr_inv {b off : Nat} {x : Value} (r : Rep E (.ptr b off) x) : ∃ g, x = .pointer (some ⟨g, off, none⟩) ∧ E.β b = some g := by
  cases r with
  | ptr _ _ g hg => exact ⟨g, rfl, hg⟩
theorem resOne_sound (h : RelS C w0 pb F0 s a E) {x : ResultVar} {K : PV → Prop} (hv : resOne C s x K) : ∃ p v, (rdRes a.tmps x).run C.P E.w = .ok v E.w ∧ Rep E p v ∧ K p := by
  cases x with
  | tmp t => exact ⟨_, _, rfl, h.t t, hv⟩
  | cell b ty =>
    unfold resOne at hv
    simp only at hv
    have hb := h.t b
    split at hv
    · rename_i i off hi
      rw [hi] at hb
      split at hv
      · rename_i cs hcs
        obtain ⟨p, h1, h2⟩ := vcPart_ex hv.2
        obtain ⟨g, T, vs, e1, e2, e3, e4⟩ := h.h.o.box i cs hv.1 hcs
        obtain ⟨g', hx, hg'⟩ := hb.ptr_inv
        rw [e1] at hg'
        injection hg' with hg'
        subst hg'
        obtain ⟨z, k1, k2⟩ := cells_of_part (P := C.P) (w := E.w) (g := g) (b0 := 0) (E := E) (val := fun i => vs.getD i undef) (fun i hi => by rw [Nat.zero_add]; exact e2.getD (by rw [← e3.1]; exact hi)) e3.2 h1
        rw [Nat.zero_add] at k1
        refine ⟨p, z, ?_, k2, h2⟩
        show (do loadVar ty (← asAddr (a.tmps.getD b undef)) : Sem Value).run C.P E.w = _
        rw [hx]
        simp only [Instr.loadAt, Instr.sureAddr] at k1
        exact k1
      · exact hv.elim
    · exact hv.elim
theorem resAll_sound (h : RelS C w0 pb F0 s a E) : ∀ {l : List ResultVar} {K : List PV → Prop}, resAll C s l K → ∃ ps vs, (l.mapM (rdRes a.tmps)).run C.P E.w = .ok vs E.w ∧ ps.length = vs.length ∧ (∀ i, i < ps.length → Rep E (ps.getD i .top) (vs.getD i undef)) ∧ K ps
  | [], K, hv => ⟨[], [], rfl, rfl, fun i hi => by simp at hi, hv⟩
  | x :: l, K, hv => by
    obtain ⟨p, v, h1, h2, h3⟩ := resOne_sound h hv
    obtain ⟨ps, vs, k1, k2, k3, k4⟩ := resAll_sound h h3
    refine ⟨p :: ps, v :: vs, ?_, by simp [k2], fun i hi => ?_, k4⟩
    · rw [List.mapM_cons]
      simp only [Sem.run_bind, h1, Result.andThen_ok, k1, Sem.run_pure]
    · cases i with
      | zero => simpa [List.getD] using h2
      | succ i => have := k3 i (by simpa using hi); simpa [List.getD] using this
theorem results_sound (h : RelS C w0 pb F0 s a E) {fn : Func} {K : List PV → Prop} (hv : resAll C s fn.results.toList K) : ∃ ps v, (results fn a.tmps).run C.P E.w = .ok v E.w ∧ Rep E (one ps) v ∧ K ps := by
  obtain ⟨ps, vs, h1, h2, h3, h4⟩ := resAll_sound h hv
  refine ⟨ps, if h : vs.toArray.size = 1 then vs.toArray[0] else .tuple vs.toArray, ?_, ?_, h4⟩
  · rw [results_eq, Array.mapM_eq_mapM_toList]
    simp only [Sem.run_bind, Sem.run_map, h1, Result.andThen_ok]
    rfl
  · match ps, vs, h2 with
    | [], [], _ => exact .tup [] #[] rfl fun i hi => by simp at hi
    | [p], [v], _ =>
      have := h3 0 (by simp)
      simpa [one, List.getD] using this
    | p :: q :: ps, v :: u :: vs, h2 =>
      rw [dif_neg (by simp)]
      refine .tup _ _ (by simpa using h2) fun i hi => ?_
      have := h3 i hi
      have hi' : i < (v :: u :: vs).length := by rw [← h2]; exact hi
      rw [getD_eq hi'] at this
      have e2 : (v :: u :: vs).toArray.getD i undef = (v :: u :: vs)[i] := by
        have : i < (v :: u :: vs).toArray.size := by simpa using hi'
        simp only [Array.getD, this, dite_true]
        simp
      rw [e2]; exact this
theorem outs_get {s : St} : ∀ {outs : List (List PV)} {b : Nat}, outsOk s b outs → ∀ j, j < outs.length → ∃ cs, s.hp (b + j) = .cells cs ∧ cs.all PV.leaf = true ∧ cs.map PV.dem1 = outs.getD j []
  | [], _, _, j, hj => by simp at hj
  | o :: l, b, h, j, hj => by
    obtain ⟨h1, h2⟩ := h
    cases j with
    | zero =>
      split at h1
      · rename_i cs hcs
        exact ⟨cs, hcs, h1.1, by simpa [List.getD] using h1.2⟩
      · exact h1.elim
    | succ j =>
      obtain ⟨cs, k1, k2, k3⟩ := outs_get h2 j (by simpa using hj)
      exact ⟨cs, by rw [show b + (j + 1) = b + 1 + j by omega]; exact k1, k2, by simpa [List.getD] using k3⟩
/-- What a walk of a function's body says of its calls. -/
theorem spec_of_wp (hgpk : ∀ w w' : World, (∀ k, k < C.gs → w'.heap[k]? = w.heap[k]?) → C.GP w → C.GP w') {f : FuncId} {fn : Func} {c : Code} (hf : C.P.funcs[f]? = some fn) (hb : fn.body = some c)
    {ars : List PV} {ins : List (List PV)} {r : PV} {outs : List (List PV)} (hr : r.plain = true) (hol : outs.length = ins.length)
    (hv : ∀ (w0 : World) (pb : Nat → Option Nat) (F0 : Nat → Nat → Prop) (a : Act) (E : Env), RelS C w0 pb F0 (entry fn ars ins) a E → c.wp C.P (fun e a w => ∃ s E, E.w = w ∧ RelS C w0 pb F0 s a E ∧ vcEnd C fn r outs e s) a E.w) : Spec C f ars ins r outs := by
  intro w F β vs hgp hgs hglob hargs hins hF hβF hβ hinj
  refine calls_of_wp hf hb ?_
  let E : Env := ⟨w, F, β, fun _ => none⟩
  have hlen : ars.length = vs.size := hargs.1
  have hlk := fun b => look_ins b ins 1
  have hhp : ∀ b, b ≠ 0 → (entry fn ars ins).hp b = if 1 ≤ b ∧ b < 1 + ins.length then .cells (ins.getD (b - 1) []) else .none := fun b hb => by
    cases b with
    | zero => exact absurd rfl hb
    | succ b => exact hlk (b + 1)
  have hrel : RelS C w β F (entry fn ars ins) { tmps := vs ++ Array.replicate (fn.ntmps - vs.size) undef, defers := [] } E := by
    refine ⟨⟨⟨hgp, hgpk, rfl, rfl, rfl, Nat.le_refl _, fun _ _ _ => rfl, hgs, hglob, fun g i hf => ⟨hF g i hf, fun _ => hf⟩, fun _ _ h => h, fun g hg => ?_, fun _ _ h => h⟩, ?_⟩, rfl, ?_, fun b g hb => ?_, fun t => ?_⟩
    · obtain ⟨b, hb⟩ := hg
      exact (hβ b g hb).2.2
    · refine ⟨⟨ins.length + 1, rfl, by omega, fun b hb => ⟨?_, rfl, ?_⟩⟩, fun b cs hb hc => ?_, fun b g hb => ?_, hinj, hβF, fun t n e ht hrow => ?_⟩
      · cases hq : β b with
        | none => exact hq
        | some g => have := (hβ b g hq).2.1; omega
      · rw [hhp b (by omega), if_neg (by omega)]
      · rw [hhp b hb] at hc
        by_cases hin : 1 ≤ b ∧ b < 1 + ins.length
        · rw [if_pos hin] at hc
          injection hc with hc
          obtain ⟨g, T, us, e1, e2, e3, e4⟩ := hins (b - 1) (by omega)
          rw [show b - 1 + 1 = b by omega] at e1
          rw [hc] at e3
          exact ⟨g, T, us, e1, e2, e3, e4⟩
        · rw [if_neg hin] at hc; cases hc
      · have := hβ b g hb
        exact ⟨by omega, this.2.2.2, .inr ⟨b, hb⟩⟩
      · rw [hhp t ht] at hrow
        by_cases hin : 1 ≤ t ∧ t < 1 + ins.length
        · rw [if_pos hin] at hrow; cases hrow
        · rw [if_neg hin] at hrow; cases hrow
    · show (vs ++ Array.replicate (fn.ntmps - vs.size) undef).size = ars.length + (fn.ntmps - ars.length)
      simp [hlen]
    · have := (hβ b g hb).2.1
      exact this
    · show Rep E (ars.getD t .top) _
      by_cases ht : t < ars.length
      · have := hargs.2 t ht
        have ht' : t < vs.size := by omega
        have e : (vs ++ Array.replicate (fn.ntmps - vs.size) undef).getD t undef = vs.getD t undef := by
          simp only [Array.getD_eq_getD_getElem?]
          rw [Array.getElem?_append_left ht']
        rw [e]; exact this
      · rw [show ars.getD t .top = .top by simp [List.getD, ht]]
        exact .top _
  refine wp_mono (hv w β F _ E hrel) fun e a' w' hq => ?_
  obtain ⟨s', E', rfl, h', hq⟩ := hq
  have fin : resAll C s' fn.results.toList (fun ps => EndOk s' (one ps) r outs) → a'.defers = [] ∧ ∃ v, (results fn a'.tmps).run C.P E'.w = .ok v E'.w ∧ ∃ x F', Ending.returned v = .returned x ∧ E'.w.os = w.os ∧ E'.w.tape = w.tape ∧ E'.w.output = w.output ∧ w.heap.size ≤ E'.w.heap.size ∧
      (∀ k, k < w.heap.size → (∀ b, β b ≠ some k) → E'.w.heap[k]? = w.heap[k]?) ∧ (∀ g i, F g i → F' g i) ∧ (∀ g i, F' g i → F g i ∨ (w.heap.size ≤ g ∧ g < E'.w.heap.size)) ∧
      r.plain = true ∧ Rep ⟨E'.w, F', β, fun _ => none⟩ r x ∧ outs.length = ins.length ∧ BoxesAt ⟨E'.w, F', β, fun _ => none⟩ outs := fun hq => by
    obtain ⟨ps, v, h1, h2, ⟨h3, h4⟩⟩ := results_sound h' hq
    have hinn : E'.inn.le ⟨E'.w, E'.F, β, fun _ => none⟩ := ⟨fun _ _ h => h, fun _ _ _ => rfl, fun _ _ h => (by cases h), fun _ _ _ h => (by cases h)⟩
    refine ⟨h'.d, v, h1, v, E'.F, rfl, h'.h.b.os, h'.h.b.tape, h'.h.b.output, h'.h.b.size, fun k hk hnb => h'.h.b.old k hk (fun ⟨b, hb⟩ => hnb b hb), h'.h.b.Fsub, fun g i hf => ?_, hr, ?_, hol, fun j hj => ?_⟩
    · rcases Nat.lt_or_ge g w.heap.size with hlt | hge
      · exact .inl ((h'.h.b.Fin g i hf).2 hlt)
      · exact .inr ⟨hge, (h'.h.b.Fin g i hf).1⟩
    · have := h2.demR
      rw [h3] at this
      exact (this.inn_plain hr).le hinn
    · obtain ⟨cs, k1, k2, k3⟩ := outs_get h4 j hj
      obtain ⟨g, T, us, e1, e2, e3, e4⟩ := h'.h.o.box (1 + j) cs (by omega) k1
      obtain ⟨g0, _, _, q1, _⟩ := hins j (by omega)
      have q2 := h'.h.b.kp (j + 1) g0 q1
      rw [show j + 1 = 1 + j by omega, e1] at q2
      injection q2 with q2
      subst q2
      refine ⟨g, T, us, q1, e2, ?_, e4⟩
      rw [← k3]
      have hall := List.all_eq_true.1 k2
      refine ⟨by simpa using e3.1, fun i hi => ?_⟩
      have hi' : i < cs.length := by simpa using hi
      have := e3.2 i hi'
      rw [getD_eq hi'] at this
      rw [getD_eq hi, List.getElem_map]
      exact (this.inn_leaf (hall _ (List.getElem_mem hi'))).le hinn
  cases e with
  | normal => exact fin hq
  | ret => exact fin hq
  | _ => exact hq.elim
/-- What a function's body says of its calls. -/
theorem spec_of_body (hm : C.P.follows .mixedOrders = true) (hgpk : ∀ w w' : World, (∀ k, k < C.gs → w'.heap[k]? = w.heap[k]?) → C.GP w → C.GP w') {f : FuncId} {fn : Func} {c : Code} (hf : C.P.funcs[f]? = some fn) (hb : fn.body = some c)
    {ars : List PV} {ins : List (List PV)} {r : PV} {outs : List (List PV)} (hr : r.plain = true) (hol : outs.length = ins.length) (hv : vcC C c (vcEnd C fn r outs) (entry fn ars ins)) : Spec C f ars ins r outs :=
  spec_of_wp hgpk hf hb hr hol fun _ _ _ _ E hrel => wp_mono (code_sound hm c _ _ _ E hv hrel) fun _ _ _ ⟨s, E', h1, _, h2, h3⟩ => ⟨s, E', h1, h2, h3⟩
end
end Go.Proofs.YtamllmoakgnjoaaDoor
/- The machine of plain values on states that are written out: each step leaves a state that is written out; no program is named here. -/
namespace Go.Proofs.YtamllmoakgnjoaaDoor
open Go.RowKit
def setL : List PV → Nat → PV → (List PV → Prop) → Prop
  | [], _, _, K => K []
  | _ :: l, 0, v, K => K (v :: l)
  | x :: l, n + 1, v, K => setL l n v fun l' => K (x :: l')
def putL (σ : List PV) (d : Option Tmp) (v : PV) (K : List PV → Prop) : Prop :=
  match d with
  | none => K σ
  | some d => setL σ d v K
def insL : List (Nat × HC) → Nat → HC → (List (Nat × HC) → Prop) → Prop
  | [], k, c, K => K [(k, c)]
  | (i, x) :: l, k, c, K => match Nat.beq i k with
    | true => K ((k, c) :: l)
    | false => insL l k c fun l' => K ((i, x) :: l')
def wrL (m : Nat) (h : List (Nat × HC)) : List (Nat × HC) → (Nat → List (Nat × HC) → Prop) → Prop
  | [], K => K m h
  | (k, c) :: l, K => match Nat.beq k 0 with
    | true => match c with
      | .num m' => wrL m' h l K
      | _ => False
    | false => insL h k c fun h' => wrL m h' l K
/-- A state that is written out: its slots, the next number, the numbers. -/
abbrev XK := List PV → Nat → List (Nat × HC) → Prop
def vcRunL (C : Ctx) (ops : Array Oper) (n np : Nat) : List Oper → List PV → Nat → List (Nat × HC) → List FP → (List PV → Nat → List (Nat × HC) → List FP → Prop) → Prop
  | [], σ, m, h, tr, K => K σ m h tr
  | o :: l, σ, m, h, tr, K => vcGuard ops (mkS n np σ m h) o
      (vcOp C (C.ev (mkS n np σ m h)) o.op (mkS n np σ m h).hp fun e => e.v.force fun v => putL σ o.dst v fun σ' => wrL m h e.wr fun m' h' => vcRunL C ops n np l σ' m' h' (e.fp :: tr) K)
      (putL σ o.dst (.v undef) fun σ' => vcRunL C ops n np l σ' m h (([], []) :: tr) K)
inductive vcLoopL (n np : Nat) (body : (Exit → XK) → XK) (Q : Exit → XK) (σ : List PV) (m : Nat) (h : List (Nat × HC)) : Prop
  | mk (I : Inv) (h0 : ∃ k l m' h', l.length = n ∧ Sub (mkS n np σ m h) l m' h' ∧ I k l m' h') (h1 : ∀ k l m h, l.length = n → I k l m h → body (fun e σ' m' h' => match e with
    | .normal => ∃ k' l' m'' h'', k' < k ∧ l'.length = n ∧ Sub (mkS n np σ' m' h') l' m'' h'' ∧ I k' l' m'' h''
    | e => Q e σ' m' h') l m h) : vcLoopL n np body Q σ m h
def vcCL (C : Ctx) (n np : Nat) : Code → (Exit → XK) → XK
  | .skip, Q, σ, m, h => Q .normal σ m h
  | .label _, Q, σ, m, h => Q .normal σ m h
  | .region _ ops draw, Q, σ, m, h => match draw with
    | false => vcRunL C ops n np ops.toList σ m h [] fun σ' m' h' _ => Q .normal σ' m' h'
    | true => drawOk ops = true ∧ vcRunL C ops n np ops.toList σ m h [] fun σ' m' h' tr => traceOk ops tr.reverse = true ∧ Q .normal σ' m' h'
  | .seq x y, Q, σ, m, h => vcCL C n np x (fun e σ' m' h' => match e with
    | .normal => vcCL C n np y Q σ' m' h'
    | e => Q e σ' m' h') σ m h
  | .cond c x y, Q, σ, m, h => match C.ev (mkS n np σ m h) c with
    | .v (.bool b) => bsplit b (vcCL C n np x Q σ m h) (vcCL C n np y Q σ m h)
    | _ => False
  | .block id c, Q, σ, m, h => vcCL C n np c (fun e σ' m' h' => match e with
    | .exit id' => match Nat.beq id' id with
      | true => Q .normal σ' m' h'
      | false => Q (.exit id') σ' m' h'
    | e => Q e σ' m' h') σ m h
  | .loop c, Q, σ, m, h => vcLoopL n np (vcCL C n np c) Q σ m h
  | .exit id, Q, σ, m, h => Q (.exit id) σ m h
  | .ret, Q, σ, m, h => Q .ret σ m h
  | _, _, _, _, _ => False
theorem setL_spec : ∀ (l : List PV) (n : Nat) (v : PV) (K : List PV → Prop), setL l n v K → K (l.set n v)
  | [], _, _, _, h => h
  | _ :: _, 0, _, _, h => h
  | x :: l, n + 1, v, K, h => setL_spec l n v (fun l' => K (x :: l')) h
theorem insL_spec : ∀ (l : List (Nat × HC)) (k : Nat) (c : HC) (K : List (Nat × HC) → Prop), insL l k c K → ∃ l', K l' ∧ ∀ b, look l' b = if b = k then c else look l b
  | [], k, c, K, h => ⟨_, h, fun b => by
      unfold look
      by_cases e : b = k
      · subst e; simp
      · rw [nbeq_false e, if_neg e]; rfl⟩
  | (i, x) :: l, k, c, K, h => by
    unfold insL at h
    split at h
    · rename_i e
      have e := Nat.eq_of_beq_eq_true e
      subst e
      refine ⟨_, h, fun b => ?_⟩
      unfold look
      by_cases e : b = i
      · subst e; simp
      · rw [nbeq_false e, if_neg e]
    · rename_i hne
      obtain ⟨l', h1, h2⟩ := insL_spec l k c _ h
      refine ⟨_, h1, fun b => ?_⟩
      unfold look
      by_cases e : b = i
      · subst e
        have : b ≠ k := fun e => by rw [e, Nat.beq_refl] at hne; cases hne
        simp [this]
      · rw [nbeq_false e]
        exact h2 b
theorem mkS_hp (n np : Nat) (l : List PV) (m : Nat) (h : List (Nat × HC)) (b : Nat) : (mkS n np l m h).hp b = if b = 0 then .num m else look h b := by
  cases b with
  | zero => rfl
  | succ b => rw [if_neg (by omega)]; rfl
theorem wrL_spec (n np : Nat) (σ : List PV) : ∀ (wr : List (Nat × HC)) (m : Nat) (h : List (Nat × HC)) (K : Nat → List (Nat × HC) → Prop), wrL m h wr K → ∃ m' h', K m' h' ∧ applyW (mkS n np σ m h).hp wr = (mkS n np σ m' h').hp
  | [], m, h, K, hk => ⟨m, h, hk, rfl⟩
  | (k, c) :: l, m, h, K, hk => by
    unfold wrL at hk
    split at hk
    · rename_i e
      have e := Nat.eq_of_beq_eq_true e
      subst e
      split at hk
      · rename_i m'
        obtain ⟨m2, h2, q1, q2⟩ := wrL_spec n np σ l m' h K hk
        refine ⟨m2, h2, q1, ?_⟩
        rw [← q2]
        simp only [applyW]
        congr 1
        funext b
        rw [mkS_hp]
        by_cases hb : b = 0
        · subst hb; rw [upd_same, if_pos rfl]
        · rw [upd_ne _ _ hb, mkS_hp, if_neg hb, if_neg hb]
      · exact hk.elim
    · rename_i hne
      have hk0 : k ≠ 0 := fun e => by rw [e] at hne; cases hne
      obtain ⟨h', q1, q2⟩ := insL_spec h k c _ hk
      obtain ⟨m2, h2, q3, q4⟩ := wrL_spec n np σ l m h' K q1
      refine ⟨m2, h2, q3, ?_⟩
      rw [← q4]
      simp only [applyW]
      congr 1
      funext b
      rw [mkS_hp]
      by_cases hb : b = 0
      · subst hb; rw [upd_ne _ _ (fun e => hk0 e.symm), mkS_hp, if_pos rfl, if_pos rfl]
      · rw [if_neg hb, q2 b]
        by_cases hbk : b = k
        · subst hbk; rw [upd_same, if_pos rfl]
        · rw [upd_ne _ _ hbk, if_neg hbk, mkS_hp, if_neg hb]
theorem mkS_put {n np : Nat} {σ : List PV} (hl : σ.length = n) (m : Nat) (h : List (Nat × HC)) (d : Option Tmp) (v : PV) (K : List PV → Prop) (hk : putL σ d v K) : ∃ σ', K σ' ∧ σ'.length = n ∧ (mkS n np σ m h).put d v = mkS n np σ' m h := by
  cases d with
  | none => exact ⟨σ, hk, hl, rfl⟩
  | some d =>
    refine ⟨σ.set d v, setL_spec σ d v K hk, by simpa using hl, ?_⟩
    have ext : ∀ x y : St, x.n = y.n → x.np = y.np → x.tm = y.tm → x.hp = y.hp → x = y := by rintro ⟨_, _, _, _⟩ ⟨_, _, _, _⟩ rfl rfl rfl rfl; rfl
    refine ext _ _ (St.put_n _ _ _) (St.put_np _ _ _) ?_ (St.put_hp _ _ _)
    funext t
    rw [St.put_tm]
    show _ = (σ.set d v).getD t .top
    have e0 : (mkS n np σ m h).tm t = σ.getD t .top := rfl
    have e1 : (mkS n np σ m h).n = n := rfl
    rw [e0, e1]
    by_cases ht : d = t
    · subst ht
      by_cases hlt : d < n
      · rw [if_pos ⟨rfl, hlt⟩]
        have : d < σ.length := by rw [hl]; exact hlt
        simp [List.getD, this]
      · rw [if_neg (fun h => hlt h.2), List.set_eq_of_length_le (by rw [hl]; exact Nat.le_of_not_lt hlt)]
    · rw [if_neg (fun h => ht (by simpa using h.1))]
      simp only [List.getD]
      rw [List.getElem?_set_ne ht]
theorem run_of_vcL {C : Ctx} {ops : Array Oper} {n np : Nat} {K : List PV → Nat → List (Nat × HC) → List FP → Prop} : ∀ (l : List Oper) (k : Nat) (σ : List PV) (m : Nat) (h : List (Nat × HC)) (tr : List FP), σ.length = n → (∀ j, l[j]? = ops[k + j]?) → vcRunL C ops n np l σ m h tr K →
    ∃ tr' σ' m' h', RunR C ops (List.range' k l.length) (mkS n np σ m h) tr' (mkS n np σ' m' h') ∧ σ'.length = n ∧ K σ' m' h' ((tr'.map (·.2)).reverse ++ tr)
  | [], k, σ, m, h, tr, hl, _, hv => ⟨[], σ, m, h, .nil _, hl, hv⟩
  | o :: l, k, σ, m, h, tr, hl, hops, hv => by
    have h0 : ops[k]? = some o := by simpa using (hops 0).symm
    have hl' : ∀ j, l[j]? = ops[k + 1 + j]? := fun j => by have := hops (j + 1); simpa [Nat.add_assoc, Nat.add_comm 1 j] using this
    rcases vcGuard_ex hv with ⟨hw, hv⟩ | ⟨hw, hv⟩
    · obtain ⟨e, h1, h2⟩ := vcOp_ex hv
      rw [force_eq] at h2
      obtain ⟨σ', h3, h4, h5⟩ := mkS_put hl m h o.dst e.v _ h2
      obtain ⟨m', hh', h6, h7⟩ := wrL_spec n np σ' e.wr m h _ h3
      have hst : (mkS n np σ m h).step o e = mkS n np σ' m' hh' := by
        unfold St.step
        rw [h5]
        have ext : ∀ x y : St, x.n = y.n → x.np = y.np → x.tm = y.tm → x.hp = y.hp → x = y := by rintro ⟨_, _, _, _⟩ ⟨_, _, _, _⟩ rfl rfl rfl rfl; rfl
        exact ext _ _ rfl rfl rfl h7
      obtain ⟨tr', σ2, m2, h2', r1, r2, r3⟩ := run_of_vcL l (k + 1) σ' m' hh' _ h4 hl' h6
      rw [← hst] at r1
      refine ⟨_, σ2, m2, h2', .cons k _ _ _ o e tr' h0 (.inr ⟨hw, h1⟩) r1, r2, ?_⟩
      simpa using r3
    · obtain ⟨σ', h3, h4, h5⟩ := mkS_put hl m h o.dst (.v undef) _ hv
      obtain ⟨tr', σ2, m2, h2', r1, r2, r3⟩ := run_of_vcL l (k + 1) σ' m h _ h4 hl' h3
      rw [← h5, ← step_eff0] at r1
      refine ⟨_, σ2, m2, h2', .cons k _ _ _ o eff0 tr' h0 (.inl ⟨hw, rfl⟩) r1, r2, ?_⟩
      simpa [eff0, Eff.fp] using r3
section
variable {C : Ctx} {w0 : World} {pb : Nat → Option Nat} {F0 : Nat → Nat → Prop}
def QL (C : Ctx) (w0 : World) (pb : Nat → Option Nat) (F0 : Nat → Nat → Prop) (n np : Nat) (Q : Exit → XK) (e : Exit) (a : Act) (w : World) : Prop :=
  ∃ σ m h E, E.w = w ∧ σ.length = n ∧ RelS C w0 pb F0 (mkS n np σ m h) a E ∧ Q e σ m h
theorem regionL_seq {ops : Array Oper} {n np : Nat} {σ : List PV} {m : Nat} {h : List (Nat × HC)} {a : Act} {E : Env} {id : Nat} {Q : Exit → XK} (hl : σ.length = n) (hr : RelS C w0 pb F0 (mkS n np σ m h) a E) (hv : vcRunL C ops n np ops.toList σ m h [] fun σ' m' h' _ => Q .normal σ' m' h') :
    (Code.region id ops false).wp C.P (QL C w0 pb F0 n np Q) a E.w := by
  refine wp_region ?_
  obtain ⟨tr, σ', m', h', r, hl', hk⟩ := run_of_vcL ops.toList 0 σ m h [] hl (fun j => by simp) hv
  have hrange : List.range' 0 ops.toList.length = List.range ops.size := by rw [List.range_eq_range']; simp
  rw [hrange] at r
  exact seq_sound r hr fun a' E' h2 => ⟨σ', m', h', E', rfl, hl', h2, hk⟩
theorem regionL_draw {ops : Array Oper} {n np : Nat} {σ : List PV} {m : Nat} {h : List (Nat × HC)} {a : Act} {E : Env} {id : Nat} {Q : Exit → XK} (hm : C.P.follows .mixedOrders = true) (hst : drawOk ops = true) (hl : σ.length = n) (hr : RelS C w0 pb F0 (mkS n np σ m h) a E)
    (hv : vcRunL C ops n np ops.toList σ m h [] fun σ' m' h' tr => traceOk ops tr.reverse = true ∧ Q .normal σ' m' h') : (Code.region id ops true).wp C.P (QL C w0 pb F0 n np Q) a E.w := by
  refine wp_region_any hm ?_
  obtain ⟨tr, σ', m', h', r, hl', hk⟩ := run_of_vcL ops.toList 0 σ m h [] hl (fun j => by simp) hv
  obtain ⟨hR, hle⟩ := hr.h.drew
  have hr' : RelS C w0 pb F0 (mkS n np σ m h) a ⟨E.w.drew, E.F, E.β, E.O⟩ := ⟨hR, hr.d, hr.n, hr.np, fun t => (hr.t t).le hle⟩
  simp only [drawOk, Bool.and_eq_true] at hst
  have hrange : List.range' 0 ops.toList.length = List.range ops.size := by rw [List.range_eq_range']; simp
  rw [hrange] at r
  simp only [List.append_nil, List.reverse_reverse] at hk
  refine any_sound hst.1 hst.2 ops.size (List.range ops.size) _ _ tr _ a _ (by simp) (List.pairwise_lt_range) (fun i => ?_) (by simp) (fun j oj _ hl => by rw [getD_replicate_false] at hl; cases hl) r (traceOk_spec (run_idx r) hk.1) hr' (fun a' E' h2 => ⟨σ', m', h', E', rfl, hl', h2, hk.2⟩)
  rw [getD_replicate_false]
  simp
theorem codeL_sound (hm : C.P.follows .mixedOrders = true) (n np : Nat) : ∀ (c : Code) (Q : Exit → XK) (σ : List PV) (m : Nat) (h : List (Nat × HC)) (a : Act) (E : Env), vcCL C n np c Q σ m h → σ.length = n → RelS C w0 pb F0 (mkS n np σ m h) a E → c.wp C.P (QL C w0 pb F0 n np Q) a E.w := by
  intro c
  induction c with
  | skip => intro Q σ m h a E hv hl hr; exact wp_skip ⟨σ, m, h, E, rfl, hl, hr, hv⟩
  | label l => intro Q σ m h a E hv hl hr; exact wp_label ⟨σ, m, h, E, rfl, hl, hr, hv⟩
  | region id ops draw =>
    intro Q σ m h a E hv hl hr
    cases draw with
    | false => exact regionL_seq hl hr hv
    | true => exact regionL_draw hm hv.1 hl hr hv.2
  | seq x y ihx ihy =>
    intro Q σ m h a E hv hl hr
    refine wp_seq (wp_mono (ihx _ σ m h a E hv hl hr) fun e a' w' hq => ?_)
    obtain ⟨σ', m', h', E', rfl, hl', hr', hq⟩ := hq
    cases e with
    | normal => exact ihy Q σ' m' h' a' E' hq hl' hr'
    | _ => exact ⟨σ', m', h', E', rfl, hl', hr', hq⟩
  | cond c x y ihx ihy =>
    intro Q σ m h a E hv hl hr
    unfold vcCL at hv
    split at hv
    · rename_i b hb
      have hc := hr.ev c
      rw [hb] at hc
      have hc := hc.v_eq
      cases b
      · exact wp_cond_false hc (ihy Q σ m h a E (hv.2 rfl) hl hr)
      · exact wp_cond_true hc (ihx Q σ m h a E (hv.1 rfl) hl hr)
    · exact hv.elim
  | block id c ih =>
    intro Q σ m h a E hv hl hr
    refine wp_block (wp_mono (ih _ σ m h a E hv hl hr) fun e a' w' hq => ?_)
    obtain ⟨σ', m', h', E', rfl, hl', hr', hq⟩ := hq
    cases e with
    | exit id' =>
      simp only [Exit.inBlock]
      simp only at hq
      split at hq
      · rename_i e
        rw [if_pos (Nat.eq_of_beq_eq_true e)]
        exact ⟨σ', m', h', E', rfl, hl', hr', hq⟩
      · rename_i e
        rw [if_neg (fun e' => by rw [e', Nat.beq_refl] at e; cases e)]
        exact ⟨σ', m', h', E', rfl, hl', hr', hq⟩
    | _ => exact ⟨σ', m', h', E', rfl, hl', hr', hq⟩
  | loop c ih =>
    intro Q σ m h a E hv hl hr
    obtain ⟨I, ⟨k, l, m', h', hl', hs, hI⟩, hbody⟩ := hv
    refine wp_loop_at (fun k a w => ∃ l m hp E, E.w = w ∧ l.length = n ∧ I k l m hp ∧ RelS C w0 pb F0 (mkS n np l m hp) a E) ⟨k, l, m', h', E.cut m', rfl, hl', hI, hr.sub hs⟩ fun k a w => ?_
    rintro ⟨l, m, hp, E, rfl, hl, hI, hr⟩
    refine wp_mono (ih _ l m hp a E (hbody k l m hp hl hI) hl hr) fun e a' w' hq => ?_
    obtain ⟨σ', m', h', E', rfl, hl', hr', hq⟩ := hq
    cases e with
    | normal =>
      obtain ⟨k', l', m'', h'', hlt, hl2, hs', hI'⟩ := hq
      exact ⟨k', hlt, l', m'', h'', E'.cut m'', rfl, hl2, hI', hr'.sub hs'⟩
    | _ => exact ⟨σ', m', h', E', rfl, hl', hr', hq⟩
  | exit id => intro Q σ m h a E hv hl hr; exact wp_exit ⟨σ, m, h, E, rfl, hl, hr, hv⟩
  | ret => intro Q σ m h a E hv hl hr; exact wp_ret ⟨σ, m, h, E, rfl, hl, hr, hv⟩
  | _ => intro Q σ m h a E hv; exact hv.elim
end
def vcEndL (C : Ctx) (fn : Func) (n np : Nat) (r : PV) (outs : List (List PV)) (e : Exit) (σ : List PV) (m : Nat) (h : List (Nat × HC)) : Prop := vcEnd C fn r outs e (mkS n np σ m h)
/-- What a function's body says of its calls; n: how many slots it has. -/
theorem spec_of_bodyL {C : Ctx} (hm : C.P.follows .mixedOrders = true) (hgpk : ∀ w w' : World, (∀ k, k < C.gs → w'.heap[k]? = w.heap[k]?) → C.GP w → C.GP w') {f : FuncId} {fn : Func} {c : Code} (hf : C.P.funcs[f]? = some fn) (hb : fn.body = some c)
    {ars : List PV} {ins : List (List PV)} {r : PV} {outs : List (List PV)} (n np : Nat) (hn : ars.length + (fn.ntmps - ars.length) = n) (hnp : ins.length = np) (hr : r.plain = true) (hol : outs.length = ins.length)
    (hv : vcCL C n np c (vcEndL C fn n np r outs) (ars ++ List.replicate (n - ars.length) .top) (np + 1) (insHeap ins 1)) : Spec C f ars ins r outs :=
  spec_of_wp hgpk hf hb hr hol fun w0 pb F0 a E hrel => by
    have e : entry fn ars ins = mkS n np (ars ++ List.replicate (n - ars.length) .top) (np + 1) (insHeap ins 1) := by
      have ext : ∀ x y : St, x.n = y.n → x.np = y.np → x.tm = y.tm → x.hp = y.hp → x = y := by rintro ⟨_, _, _, _⟩ ⟨_, _, _, _⟩ rfl rfl rfl rfl; rfl
      refine ext _ _ hn hnp ?_ (by subst hnp; rfl)
      funext t
      show ars.getD t PV.top = (ars ++ List.replicate (n - ars.length) PV.top).getD t PV.top
      by_cases ht : t < ars.length
      · rw [getD_app_left _ _ _ ht]
      · rw [getD_app_right _ _ _ (by omega)]
        simp only [List.getD, List.getElem?_eq_none (Nat.le_of_not_lt ht), List.getElem?_replicate]
        split <;> rfl
    rw [e] at hrel
    have hl : (ars ++ List.replicate (n - ars.length) PV.top).length = n := by
      rw [List.length_append, List.length_replicate]; omega
    exact wp_mono (codeL_sound hm n np c _ _ _ _ a E hv hl hrel) fun _ _ _ ⟨σ, m, h, E', h1, _, h2, h3⟩ => ⟨_, E', h1, h2, h3⟩
end Go.Proofs.YtamllmoakgnjoaaDoor
/- The machine of plain values, step by step: each rule's premise is written out, so that no check runs the rest of the code; no program is named here. -/
namespace Go.Proofs.YtamllmoakgnjoaaDoor
open Go.RowKit
/-- One step of an operation that is wanted. -/
def stepY (C : Ctx) (n np : Nat) (σ : List PV) (m : Nat) (h : List (Nat × HC)) (o : Oper) (K : List PV → Nat → List (Nat × HC) → FP → Prop) : Prop :=
  vcOp C (C.ev (mkS n np σ m h)) o.op (mkS n np σ m h).hp fun e => e.v.force fun v => putL σ o.dst v fun σ' => wrL m h e.wr fun m' h' => K σ' m' h' e.fp
def thenL (C : Ctx) (n np : Nat) (y : Code) (Q : Exit → XK) : Exit → XK := fun e σ m h => match e with
  | .normal => vcCL C n np y Q σ m h
  | e => Q e σ m h
def blockL (id : Nat) (Q : Exit → XK) : Exit → XK := fun e σ m h => match e with
  | .exit id' => match Nat.beq id' id with
    | true => Q .normal σ m h
    | false => Q (.exit id') σ m h
  | e => Q e σ m h
def roundL (n np k : Nat) (I : Inv) (Q : Exit → XK) : Exit → XK := fun e σ m h => match e with
  | .normal => ∃ k' l' m'' h'', k' < k ∧ l'.length = n ∧ Sub (mkS n np σ m h) l' m'' h'' ∧ I k' l' m'' h''
  | e => Q e σ m h
def seqK (Q : Exit → XK) : List PV → Nat → List (Nat × HC) → List FP → Prop := fun σ m h _ => Q .normal σ m h
def drawK (ops : Array Oper) (Q : Exit → XK) : List PV → Nat → List (Nat × HC) → List FP → Prop := fun σ m h tr => traceOk ops tr.reverse = true ∧ Q .normal σ m h
theorem vb_eq {x b : Bool} (h : x = b) : PV.v (.bool x) = .v (.bool b) := by rw [h]
section
variable {C : Ctx} {ops : Array Oper} {n np : Nat} {o : Oper} {l : List Oper} {σ σ' : List PV} {m m' : Nat} {h h' : List (Nat × HC)} {tr : List FP} {fp : FP} {Kf : List PV → Nat → List (Nat × HC) → List FP → Prop} {Q : Exit → XK} {x y : Code} {id : Nat}
theorem wanted_none {s : St} (hg : o.guard = none) : wantedA ops s o = some true := by unfold wantedA; rw [hg]
theorem wanted_t {s : St} {j : Nat} {want b : Bool} {d : Tmp} (hg : o.guard = some (j, want)) (hd : (ops[j]?).bind (·.dst) = some d) (hs : s.tm d = .v (.bool b)) (hb : b = want) : wantedA ops s o = some true := by
  unfold wantedA; rw [hg]; simp only [hd, hs, hb]; simp
theorem wanted_f {s : St} {j : Nat} {want b : Bool} {d : Tmp} (hg : o.guard = some (j, want)) (hd : (ops[j]?).bind (·.dst) = some d) (hs : s.tm d = .v (.bool b)) (hb : b = !want) : wantedA ops s o = some false := by
  unfold wantedA; rw [hg]; simp only [hd, hs, hb]; cases want <;> rfl
theorem wanted_u {s : St} {j : Nat} {want : Bool} {d : Tmp} (hg : o.guard = some (j, want)) (hd : (ops[j]?).bind (·.dst) = some d) (hs : s.tm d = .v undef) : wantedA ops s o = some false := by
  unfold wantedA; rw [hg]; simp only [hd, hs]; rfl
theorem match_t {b want : Bool} {yes no : Prop} (hw : (b == want) = true) (h : yes) : (match (generalizing := false) want with
    | true => bsplit b yes no
    | false => bsplit b no yes) := by
  cases b <;> cases want <;> first | exact bsplit_t rfl h | exact bsplit_f rfl h | cases hw
theorem match_f {b want : Bool} {yes no : Prop} (hw : (b == want) = false) (h : no) : (match (generalizing := false) want with
    | true => bsplit b yes no
    | false => bsplit b no yes) := by
  cases b <;> cases want <;> first | exact bsplit_t rfl h | exact bsplit_f rfl h | cases hw
theorem guard_t {s : St} {yes no : Prop} (hw : wantedA ops s o = some true) (h : yes) : vcGuard ops s o yes no := by
  unfold wantedA at hw
  unfold vcGuard
  split at hw
  · exact h
  · split at hw
    · split at hw
      · exact match_t (Option.some.inj hw) h
      · cases hw
      · cases hw
    · cases hw
theorem guard_f {s : St} {yes no : Prop} (hw : wantedA ops s o = some false) (h : no) : vcGuard ops s o yes no := by
  unfold wantedA at hw
  unfold vcGuard
  split at hw
  · cases hw
  · split at hw
    · split at hw
      · exact match_f (Option.some.inj hw) h
      · exact h
      · cases hw
    · cases hw
theorem run_y (hw : wantedA ops (mkS n np σ m h) o = some true) (h1 : ∀ K : List PV → Nat → List (Nat × HC) → FP → Prop, K σ' m' h' fp → stepY C n np σ m h o K) (h2 : vcRunL C ops n np l σ' m' h' (fp :: tr) Kf) : vcRunL C ops n np (o :: l) σ m h tr Kf := by
  unfold vcRunL
  exact guard_t hw (h1 (fun σ' m' h' fp => vcRunL C ops n np l σ' m' h' (fp :: tr) Kf) h2)
theorem run_skip (hw : wantedA ops (mkS n np σ m h) o = some false) (h1 : ∀ K : List PV → Prop, K σ' → putL σ o.dst (.v undef) K) (h2 : vcRunL C ops n np l σ' m h (([], []) :: tr) Kf) : vcRunL C ops n np (o :: l) σ m h tr Kf := by
  unfold vcRunL
  exact guard_f hw (h1 (fun σ' => vcRunL C ops n np l σ' m h (([], []) :: tr) Kf) h2)
/-- Two ways at an operation that is guarded. -/
theorem run_b {j : Nat} {want b : Bool} {d : Tmp} (_hg : o.guard = some (j, want)) (_hd : (ops[j]?).bind (·.dst) = some d) (_hs : (mkS n np σ m h).tm d = .v (.bool b)) (ht : b = true → vcRunL C ops n np (o :: l) σ m h tr Kf) (hf : b = false → vcRunL C ops n np (o :: l) σ m h tr Kf) : vcRunL C ops n np (o :: l) σ m h tr Kf := by
  cases b
  · exact hf rfl
  · exact ht rfl
theorem run_end (hk : Kf σ m h tr) : vcRunL C ops n np [] σ m h tr Kf := hk
theorem run_seqK (hq : Q .normal σ m h) : vcRunL C ops n np [] σ m h tr (seqK Q) := hq
theorem run_drawK (ht : traceOk ops tr.reverse = true) (hq : Q .normal σ m h) : vcRunL C ops n np [] σ m h tr (drawK ops Q) := ⟨ht, hq⟩
theorem c_seq (hv : vcCL C n np x (thenL C n np y Q) σ m h) : vcCL C n np (.seq x y) Q σ m h := hv
theorem c_then (hv : vcCL C n np y Q σ m h) : thenL C n np y Q .normal σ m h := hv
theorem c_then_exit (hv : Q (.exit id) σ m h) : thenL C n np y Q (.exit id) σ m h := hv
theorem c_then_ret (hv : Q .ret σ m h) : thenL C n np y Q .ret σ m h := hv
theorem c_skip (hv : Q .normal σ m h) : vcCL C n np .skip Q σ m h := hv
theorem c_exit (hv : Q (.exit id) σ m h) : vcCL C n np (.exit id) Q σ m h := hv
theorem c_ret (hv : Q .ret σ m h) : vcCL C n np .ret Q σ m h := hv
theorem c_reg {l : List Oper} (hv : vcRunL C l.toArray n np l σ m h [] (seqK Q)) : vcCL C n np (.region id l.toArray false) Q σ m h := hv
theorem c_draw {l : List Oper} (hd : drawOk l.toArray = true) (hv : vcRunL C l.toArray n np l σ m h [] (drawK l.toArray Q)) : vcCL C n np (.region id l.toArray true) Q σ m h := ⟨hd, hv⟩
theorem c_block (hv : vcCL C n np x (blockL id Q) σ m h) : vcCL C n np (.block id x) Q σ m h := hv
theorem c_block_n (hv : Q .normal σ m h) : blockL id Q .normal σ m h := hv
theorem c_block_ret (hv : Q .ret σ m h) : blockL id Q .ret σ m h := hv
theorem c_block_exit {id' : Nat} (hid : id' = id) (hv : Q .normal σ m h) : blockL id Q (.exit id') σ m h := by
  subst hid
  show (match Nat.beq id' id' with
    | true => Q .normal σ m h
    | false => Q (.exit id') σ m h)
  rw [Nat.beq_refl]; exact hv
theorem c_block_out {id' : Nat} (hid : Nat.beq id' id = false) (hv : Q (.exit id') σ m h) : blockL id Q (.exit id') σ m h := by
  show (match Nat.beq id' id with
    | true => Q .normal σ m h
    | false => Q (.exit id') σ m h)
  rw [hid]; exact hv
theorem c_round_exit {k : Nat} {I : Inv} (hv : Q (.exit id) σ m h) : roundL n np k I Q (.exit id) σ m h := hv
theorem c_round_ret {k : Nat} {I : Inv} (hv : Q .ret σ m h) : roundL n np k I Q .ret σ m h := hv
theorem c_round {k : Nat} {I : Inv} (hv : ∃ k' l' m'' h'', k' < k ∧ l'.length = n ∧ Sub (mkS n np σ m h) l' m'' h'' ∧ I k' l' m'' h'') : roundL n np k I Q .normal σ m h := hv
theorem c_loop (I : Inv) (h0 : ∃ k l m' h', l.length = n ∧ Sub (mkS n np σ m h) l m' h' ∧ I k l m' h') (h1 : ∀ k l m h, l.length = n → I k l m h → vcCL C n np x (roundL n np k I Q) l m h) : vcCL C n np (.loop x) Q σ m h := .mk I h0 h1
theorem c_cond {c : Operand} {b : Bool} (hc : C.ev (mkS n np σ m h) c = .v (.bool b)) (ht : b = true → vcCL C n np x Q σ m h) (hf : b = false → vcCL C n np y Q σ m h) : vcCL C n np (.cond c x y) Q σ m h := by
  unfold vcCL
  rw [hc]
  exact ⟨ht, hf⟩
theorem c_cond_t {c : Operand} {b : Bool} (hc : C.ev (mkS n np σ m h) c = .v (.bool b)) (hb : b = true) (ht : vcCL C n np x Q σ m h) : vcCL C n np (.cond c x y) Q σ m h := c_cond hc (fun _ => ht) (fun e => by rw [hb] at e; cases e)
theorem c_cond_f {c : Operand} {b : Bool} (hc : C.ev (mkS n np σ m h) c = .v (.bool b)) (hb : b = false) (hf : vcCL C n np y Q σ m h) : vcCL C n np (.cond c x y) Q σ m h := c_cond hc (fun e => by rw [hb] at e; cases e) (fun _ => hf)
end
end Go.Proofs.YtamllmoakgnjoaaDoor
