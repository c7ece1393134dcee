/- A region that draws its order, some of whose operations make memory that later ones look at: each operation that yields one value in every world of a class is taken first; the others come when nothing else may; no program is named here. -/
import Derived.Test.YtamllmoakgnjoaaDoorReg
namespace Go.Proofs.YtamllmoakgnjoaaDoor
open Go.RowKit
/-- Kept while the heap grows. -/
def Stab (R : World → Prop) : Prop := ∀ w w', R w → Grow w w' → R w'
theorem Stab.true_ : Stab (fun _ => True) := fun _ _ _ _ => trivial
theorem Stab.and {R S : World → Prop} (h : Stab R) (k : Stab S) : Stab (fun w => R w ∧ S w) := fun w w' x g => ⟨h w w' x.1 g, k w w' x.2 g⟩
theorem Stab.blk (g : Nat) (t : TypeId) (cs : Array Value) : Stab (fun w => Blk w g t cs) := fun _ _ h hg => h.grow hg
section
variable {P : Program} {ops : Array Oper} {md : Region.Mode} {C : World → Prop} {Q : Exit → Act → World → Prop}

def growUpon (P : Program) (C : World → Prop) (w : World) (v : Value) : Result Next → Prop
  | .ok (.value u) w' => w' = w ∧ u = v
  | .ok .skip w' => w' = w ∧ v = undef
  | .ok (.enter f args) w' => w' = w ∧ Calls P f args w (fun e w'' => e = .returned v ∧ C w'' ∧ Grow w w'')
  | _ => False
/-- In the world w of the class the operation yields v, and the heap has only grown. -/
def growAt (P : Program) (C : World → Prop) (o : Oper) (a : Act) (w : World) (v : Value) : Prop := growUpon P C w v ((execOp a.eval o).run P w)
def YG (P : Program) (ops : Array Oper) (C : World → Prop) (o : Oper) (v : Value) (a : Act) : Prop :=
  (Region.wanted o (yielded ops a.tmps) = true ∧ ∀ w, C w → growAt P C o a w v) ∨ (Region.wanted o (yielded ops a.tmps) = false ∧ v = undef)

theorem YG.wpOp {i : Nat} {o : Oper} {v : Value} {a : Act} (hi : ops[i]? = some o) (hy : YG P ops C o v a) {R : World → Prop} (hR : Stab R) {w : World} (hC : C w) (hr : R w)
    {K : Act → World → Prop} (h : ∀ w', C w' → R w' → K (a.put o.dst v) w') : wpOp P ops Q i K a w := by
  unfold Go.wpOp
  simp only [hi]
  rcases hy with ⟨hw, hv⟩ | ⟨hw, rfl⟩
  · simp only [hw, if_true]
    refine .inl ?_
    have h3 := hv w hC
    unfold growAt at h3
    unfold Oper.wp
    generalize (execOp a.eval o).run P w = r at *
    cases r with
    | ok n w' =>
      cases n <;> simp only [growUpon] at h3 <;> simp only [Oper.upon]
      case value u =>
        obtain ⟨e1, e2⟩ := h3
        rw [e1, e2]
        exact h _ hC hr
      case skip =>
        obtain ⟨e1, e2⟩ := h3
        rw [e1, ← e2]
        exact h _ hC hr
      case enter f args =>
        obtain ⟨e1, hc⟩ := h3
        rw [e1]
        exact hc.mono fun e w'' ⟨he, hw'', hg⟩ => by subst he; exact h _ hw'' (hR _ _ hr hg)
    | halt x w' => simp only [growUpon] at h3
  · simp only [hw, Bool.false_eq_true, if_false]; exact h _ hC hr

theorem YG.of_same {o : Oper} {v : Value} {a a' : Act} (hy : YG P ops C o v a) (he : execOp a'.eval o = execOp a.eval o)
    (hw : Region.wanted o (yielded ops a'.tmps) = Region.wanted o (yielded ops a.tmps)) : YG P ops C o v a' := by
  unfold YG growAt at *
  rw [he, hw]
  exact hy

theorem wpOp_putG {j : Nat} {oi oj : Oper} {v : Value} (hj : ops[j]? = some oj) (hap : oi.apart ops oj = true)
    (hsi : ∀ cs b, oi.op ≠ .select cs b) (hsj : ∀ cs b, oj.op ≠ .select cs b)
    (hQ : ∀ c a w, Q (.panic c) (a.put oi.dst v) w → Q (.panic c) a w) {K : Act → World → Prop} {a : Act} {w : World}
    (hy : YG P ops C oi v a) (h : wpOp P ops Q j K (a.put oi.dst v) w) :
    wpOp P ops Q j (fun a' w' => YG P ops C oi v a' ∧ K (a'.put oi.dst v) w') a w := by
  obtain ⟨h1, h2, h3⟩ := Oper.apart_spec hap
  have keep : ∀ (a : Act), YG P ops C oi v a → ∀ u, YG P ops C oi v (a.put oj.dst u) := fun a hy u =>
    hy.of_same (execOp_put oi hsi a oj.dst u h3) (wanted_put oi a oj.dst u h3)
  have keepD : ∀ d, YG P ops C oi v { a with defers := d :: a.defers } := fun d => hy.of_same rfl rfl
  unfold wpOp at *
  simp only [hj] at *
  rw [wanted_put oj a oi.dst v h1] at h
  split
  · rename_i hw
    simp only [hw, if_true] at h
    rcases h with h | ⟨hasks, hlets⟩
    case inr => exact .inr ⟨by unfold Oper.asks at *; rw [execOp_put oj hsj a oi.dst v h1] at hasks; exact hasks, hlets⟩
    refine .inl ?_
    unfold Oper.wp at *
    rw [execOp_put oj hsj a oi.dst v h1] at h
    generalize (execOp a.eval oj).run P w = r at *
    cases r with
    | ok n w' =>
      cases n <;> simp only [Oper.upon] at h ⊢
      case value u => exact ⟨keep a hy u, by rw [← Act.put_comm a v u h2]; exact h⟩
      case skip => exact ⟨keep a hy _, by rw [← Act.put_comm a v undef h2]; exact h⟩
      case defer d =>
        refine ⟨keep _ (keepD d) _, ?_⟩
        rw [← Act.put_comm _ v undef h2, ← Act.put_defers]
        exact h
      case enter f args =>
        refine Calls.mono h fun e w'' he => ?_
        cases e with
        | returned u => exact ⟨keep a hy u, by rw [← Act.put_comm a v u h2]; exact he⟩
        | panicked c => exact hQ _ _ _ he
        | outgrown => exact he
      case row row args => exact Rows.mono h fun u w'' he => ⟨keep a hy u, by rw [← Act.put_comm a v u h2]; exact he⟩
    | halt x w' =>
      cases x <;> simp only [Oper.upon] at h ⊢
      case panic u => exact hQ _ _ _ h
  · rename_i hw
    simp only [hw] at h
    exact ⟨keep a hy _, by rw [← Act.put_comm a v undef h2]; exact h⟩

/-- Whatever order is picked from here on, from every world of the class that meets R; what an operation leaves may be known better behind it. Behind it all the operations from number k on come, one by one. -/
def anyC (P : Program) (md : Region.Mode) (ops : Array Oper) (C : World → Prop) (Q : Exit → Act → World → Prop) (g k : Nat) : Nat → Array Bool → (World → Prop) → Act → Prop
  | 0, listed, R, a => Region.ready md ops listed = [k] ∧ ∀ w, C w → R w → wpAny P md ops Q g listed a w
  | fuel + 1, listed, R, a => Region.ready md ops listed ≠ [] ∧ ∀ w, C w → R w →
    ∀ i ∈ Region.ready md ops listed, wpOp P ops Q i (fun a' w' => C w' ∧ ∃ R' : World → Prop, Stab R' ∧ R' w' ∧ anyC P md ops C Q g k fuel (listed.setIfInBounds i true) R' a') a w

theorem wpAny_of_anyC {g k : Nat} : ∀ (fuel : Nat) (listed : Array Bool) (R : World → Prop) (a : Act) (w : World), C w → R w → anyC P md ops C Q g k fuel listed R a → wpAny P md ops Q (fuel + g) listed a w
  | 0, _, _, _, w, hC, hR, h => by rw [Nat.zero_add]; exact h.2 w hC hR
  | fuel + 1, _, _, _, w, hC, hR, h => by
    rw [show fuel + 1 + g = (fuel + g) + 1 by omega]
    exact ⟨fun h0 => absurd h0 h.1, fun i hi => wpOp_mono (fun a' w' ⟨h1, R', _, h3, h5⟩ => wpAny_of_anyC fuel _ R' a' w' h1 h3 h5) (h.2 w hC hR i hi)⟩

/-- Every operation that has come up has all behind it that it waits for. -/
def Closed (md : Region.Mode) (ops : Array Oper) (listed : Array Bool) : Prop :=
  ∀ j oj, ops[j]? = some oj → listed.getD j false = true → ∀ e ∈ oj.after, Region.binds md e = true → listed.getD e.on false = true
def closedB (md : Region.Mode) (ops : Array Oper) (listed : Array Bool) : Bool :=
  (List.range ops.size).all fun j => !listed.getD j false || ((ops[j]?).map (·.after.all fun e => !Region.binds md e || listed.getD e.on false)).getD true
theorem closedB_spec {listed : Array Bool} (h : closedB md ops listed = true) : Closed md ops listed := by
  intro j oj hj hl e he hb
  have hlt : j < ops.size := (Array.getElem?_eq_some_iff.1 hj).1
  have h1 := List.all_eq_true.1 h j (List.mem_range.2 hlt)
  simp only [hl, hj, Bool.not_true, Bool.false_or, Option.map_some, Option.getD_some] at h1
  have h2 := (Array.all_eq_true_iff_forall_mem.1 h1) e he
  simpa [hb] using h2
theorem Closed.set {listed : Array Bool} {i : Nat} (h : Closed md ops listed) (hi : i ∈ Region.ready md ops listed) : Closed md ops (listed.setIfInBounds i true) := by
  obtain ⟨_, oi, hoi, hall⟩ := mem_ready.1 hi
  intro j oj hj hl e he hb
  by_cases hij : i = j
  · subst hij
    have : oj = oi := Option.some.inj (hj.symm.trans hoi)
    subst this
    exact getD_set_true (hall e he hb)
  · rw [getD_set_ne false hij] at hl
    exact getD_set_true (h j oj hj hl e he hb)
/-- k waits for i, or for one that waits for i, and so on, n times. -/
def waitsN (md : Region.Mode) (ops : Array Oper) : Nat → Nat → Nat → Bool
  | 0, k, i => Region.waitsFor md ops k i
  | n + 1, k, i => Region.waitsFor md ops k i || (List.range ops.size).any fun m => Region.waitsFor md ops k m && waitsN md ops n m i
def waitsVia (md : Region.Mode) (ops : Array Oper) (k i : Nat) : Bool := waitsN md ops 3 k i
theorem waitsFor_listed {listed : Array Bool} {k i : Nat} (h : Region.waitsFor md ops k i = true) (hc : Closed md ops listed) (hk : listed.getD k false = true) : listed.getD i false = true := by
  obtain ⟨ok, hok, e, he, hb, hon⟩ := Region.waitsFor_spec h
  exact hon ▸ hc k ok hok hk e he hb
theorem waitsN_listed {listed : Array Bool} (hc : Closed md ops listed) : ∀ (n k i : Nat), waitsN md ops n k i = true → listed.getD k false = true → listed.getD i false = true
  | 0, _, _, h, hk => waitsFor_listed h hc hk
  | n + 1, k, i, h, hk => by
    simp only [waitsN, Bool.or_eq_true] at h
    rcases h with h | h
    · exact waitsFor_listed h hc hk
    · obtain ⟨m, _, hm⟩ := List.any_eq_true.1 h
      simp only [Bool.and_eq_true] at hm
      exact waitsN_listed hc n m i hm.2 (waitsFor_listed hm.1 hc hk)
theorem waitsVia_spec {listed : Array Bool} {k i : Nat} (h : waitsVia md ops k i = true) (hc : Closed md ops listed) (hk : k ∈ Region.ready md ops listed) : listed.getD i false = true := by
  obtain ⟨_, ok, hok, hall⟩ := mem_ready.1 hk
  have direct : ∀ m, Region.waitsFor md ops k m = true → listed.getD m false = true := fun m hm => by
    obtain ⟨o', ho', e, he, hb, hon⟩ := Region.waitsFor_spec hm
    have : o' = ok := Option.some.inj (ho'.symm.trans hok)
    subst this
    exact hon ▸ hall e he hb
  unfold waitsVia at h
  simp only [waitsN, Bool.or_eq_true] at h
  rcases h with h | h
  · exact direct i h
  · obtain ⟨m, _, hm⟩ := List.any_eq_true.1 h
    simp only [Bool.and_eq_true, Bool.or_eq_true] at hm
    have hml := direct m hm.1
    rcases hm.2 with h2 | h2
    · exact waitsFor_listed h2 hc hml
    · obtain ⟨m2, _, hm2⟩ := List.any_eq_true.1 h2
      simp only [Bool.and_eq_true] at hm2
      have := waitsN_listed hc 1 m2 i (by simpa only [waitsN, Bool.or_eq_true] using hm2.2) (waitsFor_listed hm2.1 hc hml)
      exact this
theorem anyC_first {g k i : Nat} {oi : Oper} {v : Value} (hi : ops[i]? = some oi) (hsel : ∀ (j : Nat) (o : Oper) cs b, ops[j]? = some o → o.op ≠ .select cs b)
    (hQ : ∀ c a w, Q (.panic c) (a.put oi.dst v) w → Q (.panic c) a w) (hk : waitsVia md ops k i = true) :
    ∀ (fuel : Nat) (listed : Array Bool) (R : World → Prop) (a : Act), Stab R → Closed md ops listed →
      (∀ j oj, ops[j]? = some oj → j ≠ i → listed.getD j true = false → (∀ e ∈ oj.after, Region.binds md e = true → e.on ≠ i) → oi.apart ops oj = true) →
      i ∈ Region.ready md ops listed → YG P ops C oi v a →
      anyC P md ops C Q g k fuel (listed.setIfInBounds i true) R (a.put oi.dst v) → anyC P md ops C Q g k (fuel + 1) listed R a := by
  intro fuel
  induction fuel with
  | zero =>
    intro listed R a hS hcl _ hr hy H
    have hun := (mem_ready.1 hr).1
    refine ⟨fun h => (by rw [h] at hr; cases hr), fun w hC hRw j hj => ?_⟩
    by_cases hji : j = i
    · subst hji; exact hy.wpOp hi hS hC hRw fun w' hC' hR' => ⟨hC', R, hS, hR', H⟩
    · have h1 := ready_mono hj hji
      rw [H.1] at h1
      have hjk : j = k := by simpa using h1
      subst hjk
      have h2 := waitsVia_spec hk hcl hj
      rw [getD_both hun] at h2
      cases h2
  | succ fuel ih =>
    intro listed R a hS hcl hfree hr hy H
    have hun := (mem_ready.1 hr).1
    refine ⟨fun h => (by rw [h] at hr; cases hr), fun w hC hRw j hj => ?_⟩
    by_cases hji : j = i
    · subst hji; exact hy.wpOp hi hS hC hRw fun w' hC' hR' => ⟨hC', R, hS, hR', H⟩
    · have h1 := H.2 w hC hRw j (ready_mono hj hji)
      obtain ⟨hjun, oj, hoj, hall⟩ := mem_ready.1 hj
      have hnot : ∀ e ∈ oj.after, Region.binds md e = true → e.on ≠ i := fun e he hb heq => by
        have h1 := hall e he hb
        rw [heq, getD_both hun] at h1
        cases h1
      have h2 := wpOp_putG hoj (hfree j oj hoj hji hjun hnot) (fun cs b => hsel i oi cs b hi) (fun cs b => hsel j oj cs b hoj) hQ hy h1
      have hfree' : ∀ k ok, ops[k]? = some ok → k ≠ i → (listed.setIfInBounds j true).getD k true = false →
          (∀ e ∈ ok.after, Region.binds md e = true → e.on ≠ i) → oi.apart ops ok = true := fun k ok hk hki hun hno => by
        refine hfree k ok hk hki ?_ hno
        by_cases hjk : j = k
        · subst hjk; exact hjun
        · rw [getD_set_ne true hjk] at hun; exact hun
      refine wpOp_mono (fun a' w' ⟨hy', hC', R', hS', hR', h3⟩ => ⟨hC', R', hS', hR', ih (listed.setIfInBounds j true) R' a' hS' (hcl.set hj) hfree' (ready_mono hr (Ne.symm hji)) hy' ?_⟩) h2
      rw [Array.setIfInBounds_comm _ _ hji]
      exact h3

/-- Take number i first. -/
theorem anyC_take {g k i : Nat} {oi : Oper} {v : Value} {fuel : Nat} {listed : Array Bool} {R : World → Prop} {a : Act} (hi : ops[i]? = some oi)
    (hc : (Region.noSelect ops && waitsVia md ops k i && Region.free md ops listed i && (Region.ready md ops listed).contains i && closedB md ops listed) = true)
    (hQ : ∀ c a w, Q (.panic c) (a.put oi.dst v) w → Q (.panic c) a w) (hS : Stab R) (hy : YG P ops C oi v a)
    (h : anyC P md ops C Q g k fuel (listed.setIfInBounds i true) R (a.put oi.dst v)) : anyC P md ops C Q g k (fuel + 1) listed R a := by
  simp only [Bool.and_eq_true] at hc
  exact anyC_first hi (Region.noSelect_spec hc.1.1.1.1) hQ hc.1.1.1.2 fuel listed R a hS (closedB_spec hc.2) (Region.free_spec hi hc.1.1.2) (by simpa using hc.1.2) hy h

attribute [go_sem] growAt growUpon
theorem anyC_val {g k i : Nat} {oi : Oper} {fuel : Nat} {listed : Array Bool} {R : World → Prop} {a : Act} (d : Option Tmp) (hi : ops[i]? = some oi) (hd : oi.dst = d)
    (hc : (Region.noSelect ops && waitsVia md ops k i && Region.free md ops listed i && (Region.ready md ops listed).contains i && closedB md ops listed) = true)
    (hQ' : ∀ v c a w, Q (.panic c) (a.put d v) w → Q (.panic c) a w) (hS : Stab R) (hw : Region.wanted oi (yielded ops a.tmps) = true)
    (h : ∃ v, (∀ w, C w → (execOp a.eval oi).run P w = .ok (.value v) w) ∧ anyC P md ops C Q g k fuel (listed.setIfInBounds i true) R (a.put d v)) : anyC P md ops C Q g k (fuel + 1) listed R a := by
  subst hd
  obtain ⟨v, h1, h2⟩ := h
  exact anyC_take hi hc (hQ' v) hS (.inl ⟨hw, fun w hC => by unfold growAt; rw [h1 w hC]; exact ⟨rfl, rfl⟩⟩) h2
theorem anyC_call {g k i : Nat} {oi : Oper} {fuel : Nat} {listed : Array Bool} {R : World → Prop} {a : Act} (d : Option Tmp) (v : Value) (hi : ops[i]? = some oi) (hd : oi.dst = d)
    (hc : (Region.noSelect ops && waitsVia md ops k i && Region.free md ops listed i && (Region.ready md ops listed).contains i && closedB md ops listed) = true)
    (hQ : ∀ c a w, Q (.panic c) (a.put d v) w → Q (.panic c) a w) (hS : Stab R) (hw : Region.wanted oi (yielded ops a.tmps) = true)
    (h1 : ∀ w, C w → growAt P C oi a w v) (h2 : anyC P md ops C Q g k fuel (listed.setIfInBounds i true) R (a.put d v)) : anyC P md ops C Q g k (fuel + 1) listed R a := by
  subst hd
  exact anyC_take hi hc hQ hS (.inl ⟨hw, h1⟩) h2
theorem anyC_load_row {g k i : Nat} {o : Oper} {fuel : Nat} {listed : Array Bool} {R : World → Prop} {a : Act} (dt : Option Tmp) (hi : ops[i]? = some o) (hdt : o.dst = dt)
    (hc : (Region.noSelect ops && waitsVia md ops k i && Region.free md ops listed i && (Region.ready md ops listed).contains i && closedB md ops listed) = true)
    (hS : Stab R) (hw : Region.wanted o (yielded ops a.tmps) = true) (ty : TypeId) (x : Operand) (ho : o.op = .load ty x)
    (b : Nat) (hx : a.eval x = .pointer (some ⟨b, 0, none⟩)) (t : TypeId) (cs : Array Value) (fr : Nat × Nat) (d : TypeDesc) (hg : ∀ w, C w → w.heap[b]? = some (.cells cs t fr))
    (hu : P.underlying ty = some d) (hd : (match d with | .struct _ | .array _ _ => true | _ => false) = true) (hz : (P.info? ty).map (·.size) = some cs.size)
    (hQ : ∀ c a w, Q (.panic c) (a.put dt (.agg cs)) w → Q (.panic c) a w)
    (h : anyC P md ops C Q g k fuel (listed.setIfInBounds i true) R (a.put dt (.agg cs))) : anyC P md ops C Q g k (fuel + 1) listed R a := by
  subst hdt
  exact anyC_take hi hc hQ hS (.inl ⟨hw, fun w hC => by
    unfold growAt execOp
    simp only [ho, hx, Instr.loadAt, Instr.sureAddr, Sem.run_bind, Sem.run_pure, Result.andThen_ok, run_loadVar_row w b t ty cs fr d (hg w hC) hu hd hz]
    exact ⟨rfl, rfl⟩⟩) h
/-- The one operation that may come up. -/
theorem anyC_one {g k i : Nat} {fuel : Nat} {listed : Array Bool} {R : World → Prop} {a : Act} (hr : Region.ready md ops listed = [i])
    (h : ∀ w, C w → R w → wpOp P ops Q i (fun a' w' => C w' ∧ ∃ R' : World → Prop, Stab R' ∧ R' w' ∧ anyC P md ops C Q g k fuel (listed.setIfInBounds i true) R' a') a w) :
    anyC P md ops C Q g k (fuel + 1) listed R a := by
  refine ⟨fun h0 => (by rw [hr] at h0; cases h0), fun w hC hRw j hj => ?_⟩
  rw [hr] at hj
  have hji : j = i := by simpa using hj
  subst hji
  exact h w hC hRw

/-- The two operations that may come up. -/
theorem anyC_two {g k i j : Nat} {fuel : Nat} {listed : Array Bool} {R : World → Prop} {a : Act} (hr : Region.ready md ops listed = [i, j])
    (h1 : ∀ w, C w → R w → wpOp P ops Q i (fun a' w' => C w' ∧ ∃ R' : World → Prop, Stab R' ∧ R' w' ∧ anyC P md ops C Q g k fuel (listed.setIfInBounds i true) R' a') a w)
    (h2 : ∀ w, C w → R w → wpOp P ops Q j (fun a' w' => C w' ∧ ∃ R' : World → Prop, Stab R' ∧ R' w' ∧ anyC P md ops C Q g k fuel (listed.setIfInBounds j true) R' a') a w) :
    anyC P md ops C Q g k (fuel + 1) listed R a := by
  refine ⟨fun h0 => (by rw [hr] at h0; cases h0), fun w hC hRw x hx => ?_⟩
  rw [hr] at hx
  simp only [List.mem_cons, List.not_mem_nil, or_false] at hx
  rcases hx with rfl | rfl
  · exact h1 w hC hRw
  · exact h2 w hC hRw
theorem wpOp_call {i : Nat} {o : Oper} {a : Act} {w : World} {K : Act → World → Prop} (d : Option Tmp) {f : FuncId} {args : Array Value} (hi : ops[i]? = some o) (hd : o.dst = d) (hw : Region.wanted o (yielded ops a.tmps) = true)
    (hr : (execOp a.eval o).run P w = .ok (.enter f args) w) (hc : Calls P f args w fun e w' => ∃ v, e = .returned v ∧ K (a.put d v) w') : wpOp P ops Q i K a w := by
  subst hd
  unfold wpOp
  simp only [hi, hw, if_true]
  refine .inl ?_
  unfold Oper.wp
  rw [hr]
  exact hc.mono fun e w' ⟨v, he, hk⟩ => by subst he; exact hk
theorem wpOp_alloc {i : Nat} {o : Oper} {a : Act} {w : World} {K : Act → World → Prop} (d : Option Tmp) (t : TypeId) (zs : Array Value) (hi : ops[i]? = some o) (hd : o.dst = d) (hw : Region.wanted o (yielded ops a.tmps) = true)
    (hz : (execOp a.eval o).run P w = .ok (.value (.pointer (some ⟨w.heap.size, 0, none⟩))) (w.alloc (.cells zs t)))
    (h : K (a.put d (.pointer (some ⟨w.heap.size, 0, none⟩))) (w.alloc (.cells zs t))) : wpOp P ops Q i K a w := by
  subst hd
  unfold wpOp
  simp only [hi, hw, if_true]
  refine .inl ?_
  unfold Oper.wp
  rw [hz]
  exact h
/-- Less may be known. -/
theorem anyC_weaken {g k : Nat} {R R2 : World → Prop} (h2 : ∀ w, R w → R2 w) {fuel : Nat} {listed : Array Bool} {a : Act} (h : anyC P md ops C Q g k fuel listed R2 a) : anyC P md ops C Q g k fuel listed R a := by
  cases fuel with
  | zero => exact ⟨h.1, fun w hC hR => h.2 w hC (h2 w hR)⟩
  | succ fuel => exact ⟨h.1, fun w hC hR => h.2 w hC (h2 w hR)⟩
/-- The one that may come up makes a block. -/
theorem anyC_alloc {g k i : Nat} {o : Oper} {fuel : Nat} {listed : Array Bool} {R : World → Prop} {a : Act} (d : Option Tmp) (hi : ops[i]? = some o) (hd : o.dst = d) (hr : Region.ready md ops listed = [i]) (hS : Stab R)
    (t : TypeId) (zs : Array Value) (hw : Region.wanted o (yielded ops a.tmps) = true) (hz : ∀ w, (execOp a.eval o).run P w = .ok (.value (.pointer (some ⟨w.heap.size, 0, none⟩))) (w.alloc (.cells zs t)))
    (hC : ∀ w, C w → C (w.alloc (.cells zs t)))
    (h : ∀ b, (∃ w, C w ∧ R w ∧ w.heap.size = b) → anyC P md ops C Q g k fuel (listed.setIfInBounds i true) (fun w => R w ∧ Blk w b t zs) (a.put d (.pointer (some ⟨b, 0, none⟩)))) :
    anyC P md ops C Q g k (fuel + 1) listed R a := by
    subst hd
    refine anyC_one hr fun w hc hRw => ?_
    unfold wpOp
    simp only [hi, hw, if_true]
    refine .inl ?_
    unfold Oper.wp
    rw [hz w]
    exact ⟨hC w hc, _, hS.and (Stab.blk _ _ _), ⟨hS _ _ hRw ((Grow.refl _).alloc (Nat.le_refl _) _), Blk.new _ _ _⟩, h _ ⟨w, hc, hRw, rfl⟩⟩

/-- The rest come up one by one, in the text's order. -/
theorem anyC_tail {l : List Oper} {k : Nat} {listed : Array Bool} {R : World → Prop} {a : Act} (hl : ∀ j, l[j]? = ops[k + j]?) (hr : Region.ready md ops listed = [k]) (hB : Region.seqB md ops l.length k listed = true)
    (h : ∀ w, C w → R w → wpList P ops Q l a w) : anyC P md ops C Q l.length k 0 listed R a :=
  ⟨hr, fun w hC hR => wpAny_of_seq l k listed a w hl hB (h w hC hR)⟩

theorem anyC_tail_lit {L : List Oper} {k : Nat} {listed : Array Bool} {R : World → Prop} {a : Act} (hB : (Region.ready md L.toArray listed == [k] && Region.seqB md L.toArray (L.drop k).length k listed) = true)
    (h : ∀ w, C w → R w → wpList P L.toArray Q (L.drop k) a w) : anyC P md L.toArray C Q (L.drop k).length k 0 listed R a := by
  simp only [Bool.and_eq_true, beq_iff_eq] at hB
  exact anyC_tail (fun j => by simp [List.getElem?_drop]) hB.1 hB.2 h
/-- The beginning: n operations in whatever order, then the rest. -/
theorem wp_region_anyC {id : Nat} {a : Act} {w : World} {l : List Oper} (n : Nat) (C : World → Prop) (hm : P.follows .mixedOrders = true) (hn : n + (l.drop n).length = l.toArray.size) (hC : C w.drew)
    (h : anyC P .any l.toArray C Q (l.drop n).length n n (Array.replicate l.toArray.size false) (fun _ => True) a) : (Code.region id l.toArray true).wp P Q a w := by
  refine wp_region_any hm ?_
  have := wpAny_of_anyC _ _ _ _ _ hC trivial h
  rw [hn] at this
  exact this
end
end Go.Proofs.YtamllmoakgnjoaaDoor
