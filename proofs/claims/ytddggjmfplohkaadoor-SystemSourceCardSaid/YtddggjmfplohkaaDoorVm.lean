import Derived.Test.YtddggjmfplohkaaDoorVq
/- Regions of the machine of plain values: in the text's order, or in whatever order where the steps are apart; no program is named here. -/
namespace Go.Proofs.YtddggjmfplohkaaDoor
open Go.RowKit
/-- Is the operation wanted? -/
def vcGuard (ops : Array Oper) (s : St) (o : Oper) (yes no : Prop) : Prop :=
  match o.guard with
  | none => yes
  | some (j, want) => match (ops[j]?).bind (·.dst) with
    | some d => match s.tm d with
      | .v (.bool b) => match want with
        | true => bsplit b yes no
        | false => bsplit b no yes
      | .v (.tuple _) => no
      | _ => False
    | none => False
def wantedA (ops : Array Oper) (s : St) (o : Oper) : Option Bool :=
  match o.guard with
  | none => some true
  | some (j, want) => match (ops[j]?).bind (·.dst) with
    | some d => match s.tm d with
      | .v (.bool b) => some (b == want)
      | .v (.tuple _) => some false
      | _ => none
    | none => none
theorem vcGuard_ex {ops : Array Oper} {s : St} {o : Oper} {yes no : Prop} (h : vcGuard ops s o yes no) : (wantedA ops s o = some true ∧ yes) ∨ (wantedA ops s o = some false ∧ no) := by
  unfold vcGuard wantedA at *
  split at h
  · exact .inl ⟨rfl, h⟩
  · split at h
    · split at h
      · rename_i b hb
        split at h <;> (cases b <;> first | exact .inl ⟨rfl, h.1 rfl⟩ | exact .inr ⟨rfl, h.2 rfl⟩ | exact .inl ⟨rfl, h.2 rfl⟩ | exact .inr ⟨rfl, h.1 rfl⟩)
      · exact .inr ⟨rfl, h⟩
      · exact h.elim
    · exact h.elim
def St.step (s : St) (o : Oper) (e : Eff) : St := { s.put o.dst e.v with hp := applyW s.hp e.wr }
abbrev FP := List Nat × List Nat
def Eff.fp (e : Eff) : FP := (e.rd, e.wr.map (·.1))
def eff0 : Eff := ⟨.v undef, [], []⟩
theorem step_eff0 (s : St) (o : Oper) : s.step o eff0 = s.put o.dst (.v undef) := by
  unfold St.step eff0 applyW
  simp only
  have := St.put_hp s o.dst (.v undef)
  generalize s.put o.dst (.v undef) = x at *
  cases x
  simp only at this
  rw [this]
/-- What an operation yields in a state: it is guarded away, or it takes its step. -/
def Yld (C : Ctx) (ops : Array Oper) (s : St) (o : Oper) (e : Eff) : Prop :=
  (wantedA ops s o = some false ∧ e = eff0) ∨ (wantedA ops s o = some true ∧ vcOp C s.np (C.ev s) o.op s.hp (· = e))
inductive RunR (C : Ctx) (ops : Array Oper) : List Nat → St → List (Nat × FP) → St → Prop
  | nil (s : St) : RunR C ops [] s [] s
  | cons (i : Nat) (l : List Nat) (s s' : St) (o : Oper) (e : Eff) (tr : List (Nat × FP)) (hi : ops[i]? = some o) (hy : Yld C ops s o e) (h : RunR C ops l (s.step o e) tr s') : RunR C ops (i :: l) s ((i, e.fp) :: tr) s'
/-- What the model holds of a state and its slots. -/
structure RelS (C : Ctx) (w0 : World) (pb : Nat → Option Nat) (F0 : Nat → Nat → Prop) (Ds : List Deferred) (s : St) (a : Act) (E : Env) : Prop where
  h : HR C w0 pb F0 s.hp E
  d : a.defers = Ds
  n : a.tmps.size = s.n
  np : ∀ b g, pb b = some g → b ≤ s.np
  t : ∀ t, Rep E (s.tm t) (a.tmps.getD t undef)
section
variable {C : Ctx} {w0 : World} {pb : Nat → Option Nat} {F0 : Nat → Nat → Prop} {Ds : List Deferred} {s s1 s' : St} {a : Act} {E : Env} {ops : Array Oper}
theorem RelS.ev (h : RelS C w0 pb F0 Ds s a E) (x : Operand) : Rep E (C.ev s x) (a.eval x) := by
  cases x with
  | tmp t => exact h.t t
  | const v => exact Rep.ofV v
  | global g => exact (h.h.b.glob g).le (Env.inn_le E)
  | func f => exact .v _
theorem RelS.put (h : RelS C w0 pb F0 Ds s a E) {d : Option Tmp} {p : PV} {z : Value} {E' : Env} {hp' : Nat → HC} (hR : HR C w0 pb F0 hp' E') (hle : E.le E') (hr : Rep E' p z) : RelS C w0 pb F0 Ds { s.put d p with hp := hp' } (a.put d z) E' := by
  have hn : (s.put d p).n = s.n := St.put_n s d p
  have hnp : (s.put d p).np = s.np := St.put_np s d p
  refine ⟨hR, by cases d <;> exact h.d, ?_, fun b g hb => by show b ≤ (s.put d p).np; rw [hnp]; exact h.np b g hb, fun t => ?_⟩
  · show (a.put d z).tmps.size = (s.put d p).n
    rw [hn, ← h.n]
    cases d <;> simp [Act.put]
  · show Rep E' ((s.put d p).tm t) _
    rw [St.put_tm]
    cases d with
    | none => rw [if_neg (by simp)]; exact (h.t t).le hle
    | some d =>
      simp only [Act.put]
      by_cases ht : d = t
      · subst ht
        by_cases hlt : d < s.n
        · rw [if_pos ⟨rfl, hlt⟩]
          have : d < a.tmps.size := by rw [h.n]; exact hlt
          simp only [Array.getD_eq_getD_getElem?]
          rw [Array.getElem?_setIfInBounds_self_of_lt this]
          exact hr
        · rw [if_neg (fun h => hlt h.2)]
          have : ¬ d < a.tmps.size := by rw [h.n]; exact hlt
          rw [Array.setIfInBounds_eq_of_size_le (Nat.le_of_not_lt this)]
          exact (h.t d).le hle
      · rw [if_neg (fun h => ht (by simpa using h.1))]
        simp only [Array.getD_eq_getD_getElem?]
        rw [Array.getElem?_setIfInBounds_ne ht]
        have := (h.t t).le hle
        simpa only [Array.getD_eq_getD_getElem?] using this
theorem yielded_of (h : RelS C w0 pb F0 Ds s a E) {o : Oper} {b : Bool} (hw : wantedA ops s o = some b) : Region.wanted o (yielded ops a.tmps) = b := by
  unfold wantedA at hw
  unfold Region.wanted
  split at hw
  · rename_i hg
    rw [hg]
    injection hw with hw
  · rename_i j want hg
    rw [hg]
    simp only
    split at hw
    · rename_i d hd
      have ht := h.t d
      unfold yielded
      rw [hd]
      simp only [Option.bind_some]
      split at hw
      · rename_i x hx
        rw [hx] at ht
        injection hw with hw
        have hv := ht.v_eq
        simp only [Array.getD_eq_getD_getElem?] at hv
        cases hq : a.tmps[d]? with
        | none => rw [hq] at hv; cases hv
        | some y =>
          rw [hq] at hv
          have hv : y = .bool x := hv
          subst hv
          rw [← hw]
          cases x <;> cases want <;> rfl
      · rename_i vs hx
        rw [hx] at ht
        injection hw with hw
        have hv := ht.v_eq
        simp only [Array.getD_eq_getD_getElem?] at hv
        cases hq : a.tmps[d]? with
        | none => rw [← hw]; rfl
        | some y =>
          rw [hq] at hv
          have hv : y = .tuple vs := hv
          subst hv
          rw [← hw]; rfl
      · cases hw
    · cases hw
theorem yld_sound (h : RelS C w0 pb F0 Ds s a E) {i : Nat} {o : Oper} {e : Eff} (hi : ops[i]? = some o) (hy : Yld C ops s o e) {K : Act → World → Prop} {Q : Exit → Act → World → Prop}
    (hk : ∀ a' E', RelS C w0 pb F0 Ds (s.step o e) a' E' → E.le E' → K a' E'.w) : wpOp C.P ops Q i K a E.w := by
  unfold wpOp
  rw [hi]
  simp only
  rcases hy with ⟨hw, rfl⟩ | ⟨hw, hv⟩
  · rw [if_neg (by rw [yielded_of h hw]; simp)]
    exact hk _ E (h.put h.h (Env.le.refl E) (.v _)) (Env.le.refl E)
  · rw [if_pos (yielded_of h hw)]
    refine .inl (op_sound h.h h.ev h.np hv fun z w' ha => ?_)
    obtain ⟨E', rfl, hR, hle, hr⟩ := ha
    exact hk _ E' (h.put hR hle hr) hle
/-- In the text's order. -/
theorem seq_sound {Q : Exit → Act → World → Prop} : ∀ {l : List Nat} {s s' : St} {tr : List (Nat × FP)} {a : Act} {E : Env}, RunR C ops l s tr s' → RelS C w0 pb F0 Ds s a E → (∀ a' E', RelS C w0 pb F0 Ds s' a' E' → E.le E' → Q .normal a' E'.w) → wpOps C.P ops Q l a E.w
  | [], _, _, _, _, _, hr, h, hq => by
    cases hr
    exact hq _ _ h (Env.le.refl _)
  | i :: l, _, _, _, _, _, hr, h, hq => by
    cases hr with
    | cons _ _ _ _ o e tr hi hy hr =>
      rw [wpOps_cons]
      exact yld_sound h hi hy fun a' E' h' hle => seq_sound hr h' fun a2 E2 h2 hle2 => hq a2 E2 h2 (hle.trans hle2)
/-! Whatever order. -/
def disj (x y : FP) : Bool := (x.2.all fun k => !y.1.contains k && !y.2.contains k) && (y.2.all fun k => !x.1.contains k)
theorem disj_spec {x y : FP} (h : disj x y = true) : (∀ k ∈ x.2, k ∉ y.1 ∧ k ∉ y.2) ∧ ∀ k ∈ y.2, k ∉ x.1 ∧ k ∉ x.2 := by
  simp only [disj, Bool.and_eq_true, List.all_eq_true, Bool.not_eq_true', List.contains_eq_mem, decide_eq_false_iff_not] at h
  exact ⟨h.1, fun k hk => ⟨h.2 k hk, fun hx => (h.1 k hx).2 hk⟩⟩
theorem applyW_out {hp : Nat → HC} : ∀ {l : List (Nat × HC)} {k : Nat}, k ∉ l.map (·.1) → applyW hp l k = hp k
  | [], _, _ => rfl
  | (i, c) :: l, k, h => by
    simp only [List.map_cons, List.mem_cons, not_or] at h
    simp only [applyW]
    rw [applyW_out h.2, upd_ne _ _ h.1]
theorem applyW_congr {hp hp' : Nat → HC} : ∀ {l : List (Nat × HC)} {k : Nat}, k ∈ l.map (·.1) ∨ hp k = hp' k → applyW hp l k = applyW hp' l k
  | [], _, h => by rcases h with h | h; cases h; exact h
  | (i, c) :: l, k, h => by
    simp only [applyW]
    refine applyW_congr ?_
    by_cases hk : k = i
    · subst hk; exact .inr (by rw [upd_same, upd_same])
    · rcases h with h | h
      · simp only [List.map_cons, List.mem_cons] at h
        exact .inl (h.resolve_left hk)
      · exact .inr (by rw [upd_ne _ _ hk, upd_ne _ _ hk]; exact h)
theorem applyW_comm {hp : Nat → HC} {l l' : List (Nat × HC)} (h : ∀ k ∈ l.map (·.1), k ∉ l'.map (·.1)) : applyW (applyW hp l) l' = applyW (applyW hp l') l := by
  funext k
  by_cases h1 : k ∈ l.map (·.1)
  · rw [applyW_out (h k h1)]
    exact applyW_congr (.inl h1)
  · rw [applyW_out h1]
    refine applyW_congr (.inr ?_)
    exact applyW_out h1
theorem yld_frame {s s1 : St} {o : Oper} {e : Eff} (hnp : s1.np = s.np) (h : Yld C ops s o e) (ht : ∀ t ∈ o.looksAt ops, s1.tm t = s.tm t) (hk : ∀ k ∈ e.rd, s1.hp k = s.hp k) : Yld C ops s1 o e := by
  have hw : wantedA ops s1 o = wantedA ops s o := by
    unfold wantedA
    cases hg : o.guard with
    | none => rfl
    | some p =>
      obtain ⟨j, want⟩ := p
      simp only
      cases hd : (ops[j]?).bind (·.dst) with
      | none => rfl
      | some d =>
        simp only
        rw [ht d (by simp [Oper.looksAt, hg, hd])]
  rcases h with ⟨h1, h2⟩ | ⟨h1, h2⟩
  · exact .inl ⟨hw.trans h1, h2⟩
  · refine .inr ⟨hw.trans h1, ?_⟩
    rw [hnp]
    have hc := vcOp_congr (C := C) (np := s.np) (ρ := C.ev s1) (ρ' := C.ev s) (op := o.op) (hp := s1.hp) (· = e) (fun x hx => by
      cases x with
      | tmp t => exact ht t (by
          unfold Oper.looksAt
          refine List.mem_append_left _ (List.mem_filterMap.2 ⟨.tmp t, by simpa using hx, rfl⟩))
      | _ => rfl)
    rw [hc]
    exact vcOp_frame h2 hk
theorem step_comm (s : St) {o o' : Oper} {e e' : Eff} (hd : ∀ d, o.dst = some d → o'.dst ≠ some d) (hk : ∀ k ∈ e.wr.map (·.1), k ∉ e'.wr.map (·.1)) : (s.step o e).step o' e' = (s.step o' e').step o e := by
  have h1 : ∀ (s : St) (o : Oper) (e : Eff), (s.step o e).n = s.n := fun s o e => St.put_n s o.dst e.v
  have h2 : ∀ (s : St) (o : Oper) (e : Eff) t, (s.step o e).tm t = if o.dst = some t ∧ t < s.n then e.v else s.tm t := fun s o e t => St.put_tm s o.dst e.v t
  have h3 : ∀ (s : St) (o : Oper) (e : Eff), (s.step o e).hp = applyW s.hp e.wr := fun _ _ _ => rfl
  have ext : ∀ x y : St, x.n = y.n → x.np = y.np → x.tm = y.tm → x.hp = y.hp → x = y := by rintro ⟨_, _, _, _⟩ ⟨_, _, _, _⟩ rfl rfl rfl rfl; rfl
  have h4 : ∀ (s : St) (o : Oper) (e : Eff), (s.step o e).np = s.np := fun s o e => St.put_np s o.dst e.v
  refine ext _ _ (by rw [h1, h1, h1, h1]) (by rw [h4, h4, h4, h4]) ?_ (by rw [h3, h3, h3, h3]; exact applyW_comm hk)
  funext t
  rw [h2, h2, h2, h2, h1, h1]
  by_cases c1 : o'.dst = some t ∧ t < s.n
  · rw [if_pos c1]
    by_cases c2 : o.dst = some t ∧ t < s.n
    · exact absurd c1.1 (hd t c2.1)
    · rw [if_neg c2, if_pos c1]
  · rw [if_neg c1]
    by_cases c2 : o.dst = some t ∧ t < s.n
    · rw [if_pos c2, if_pos c2]
    · rw [if_neg c2, if_neg c2, if_neg c1]
theorem swap_run {p i : Nat} {op oi : Oper} {l : List Nat} {s s' : St} {fp fi : FP} {tr : List (Nat × FP)} (hp : ops[p]? = some op) (hi : ops[i]? = some oi) (hap : op.apart ops oi = true) (hd : disj fp fi = true)
    (h : RunR C ops (p :: i :: l) s ((p, fp) :: (i, fi) :: tr) s') : RunR C ops (i :: p :: l) s ((i, fi) :: (p, fp) :: tr) s' := by
  cases h with
  | cons _ _ _ _ o e _ ho hy hr =>
    rw [hp] at ho
    injection ho with ho
    subst ho
    cases hr with
    | cons _ _ _ _ o2 e2 _ ho2 hy2 hr2 =>
      rw [hi] at ho2
      injection ho2 with ho2
      subst ho2
      obtain ⟨a1, a2, a3⟩ := Oper.apart_spec hap
      obtain ⟨d1, d2⟩ := disj_spec hd
      have hy2' : Yld C ops s oi e2 := yld_frame (s := s.step op e) (s1 := s) (St.put_np s op.dst e.v).symm hy2 (fun t ht => by
        show s.tm t = (s.put op.dst e.v).tm t
        rw [St.put_tm, if_neg]
        rintro ⟨e', _⟩
        exact a1 t e' ht) (fun k hk => by
        show s.hp k = applyW s.hp e.wr k
        rw [applyW_out]
        intro hm
        exact (d1 k hm).1 hk)
      have hy' : Yld C ops (s.step oi e2) op e := yld_frame (St.put_np s oi.dst e2.v) hy (fun t ht => by
        show (s.put oi.dst e2.v).tm t = s.tm t
        rw [St.put_tm, if_neg]
        rintro ⟨e', _⟩
        exact a3 t e' ht) (fun k hk => by
        show applyW s.hp e2.wr k = s.hp k
        rw [applyW_out]
        intro hm
        exact (d2 k hm).1 hk)
      refine .cons i _ s s' oi e2 _ hi hy2' (.cons p _ _ s' op e _ hp hy' ?_)
      rw [← step_comm s a2 (fun k hk hk' => (d1 k hk).2 hk')]
      exact hr2
end
end Go.Proofs.YtddggjmfplohkaaDoor
/- Regions of the machine of plain values that draw their order; no program is named here. -/
namespace Go.Proofs.YtddggjmfplohkaaDoor
open Go.RowKit
def aft (B : Array Nat) (j i : Nat) : Bool := (B.getD j 0).testBit i
def unionOf (B : Array Nat) (l : List Edge) : Nat := l.foldl (fun s e => if Region.binds .any e then s ||| 2 ^ e.on ||| B.getD e.on 0 else s) 0
/-- The masks tell no more than the edges, which point back. -/
def maskOk (ops : Array Oper) (B : Array Nat) : Bool :=
  (List.range ops.size).all fun j => match ops[j]? with
    | some o => (B.getD j 0 ||| unionOf B o.after.toList) == unionOf B o.after.toList && o.after.toList.all fun e => !Region.binds .any e || Nat.blt e.on j
    | none => true
def apartOk (ops : Array Oper) (B : Array Nat) : Bool :=
  (List.range ops.size).all fun j => (List.range j).all fun i => aft B j i || (match ops[i]?, ops[j]? with
    | some x, some y => x.apart ops y
    | _, _ => false)
def drawOk (ops : Array Oper) : Bool := maskOk ops (Region.before ops) && apartOk ops (Region.before ops)
def traceOk (ops : Array Oper) (tr : List FP) : Bool :=
  (tr.all fun f => f.2.isEmpty) || (tr.zipIdx.all fun y => tr.zipIdx.all fun x => !Nat.blt x.2 y.2 || aft (Region.before ops) y.2 x.2 || disj x.1 y.1)
theorem testBit_union (B : Array Nat) (p : Nat) : ∀ (l : List Edge) (s : Nat), (l.foldl (fun s e => if Region.binds .any e then s ||| 2 ^ e.on ||| B.getD e.on 0 else s) s).testBit p = true → s.testBit p = true ∨ ∃ e ∈ l, Region.binds .any e = true ∧ (p = e.on ∨ (B.getD e.on 0).testBit p = true)
  | [], s, h => .inl h
  | e :: l, s, h => by
    rw [List.foldl_cons] at h
    rcases testBit_union B p l _ h with h | ⟨e', he', h'⟩
    · by_cases hb : Region.binds .any e = true
      · rw [if_pos hb, Nat.testBit_or, Nat.testBit_or, Bool.or_eq_true, Bool.or_eq_true] at h
        rcases h with (h | h) | h
        · exact .inl h
        · refine .inr ⟨e, List.mem_cons_self, hb, .inl ?_⟩
          rw [Nat.testBit_two_pow] at h
          exact (of_decide_eq_true h).symm
        · exact .inr ⟨e, List.mem_cons_self, hb, .inr h⟩
      · rw [if_neg hb] at h
        exact .inl h
    · exact .inr ⟨e', List.mem_cons_of_mem _ he', h'⟩
section
variable {ops : Array Oper} {B : Array Nat}
theorem maskOk_spec (h : maskOk ops B = true) {j : Nat} {o : Oper} (hj : ops[j]? = some o) : (∀ e ∈ o.after, Region.binds .any e = true → e.on < j) ∧ ∀ p, aft B j p = true → ∃ e ∈ o.after, Region.binds .any e = true ∧ (p = e.on ∨ aft B e.on p = true) := by
  have hlt : j < ops.size := (Array.getElem?_eq_some_iff.1 hj).1
  have h1 := List.all_eq_true.1 h j (List.mem_range.2 hlt)
  simp only [hj, Bool.and_eq_true, beq_iff_eq, List.all_eq_true, Bool.or_eq_true, Bool.not_eq_true'] at h1
  refine ⟨fun e he hb => ?_, fun p hp => ?_⟩
  · rcases h1.2 e (by simpa using he) with h2 | h2
    · rw [hb] at h2; cases h2
    · rw [Nat.blt_eq] at h2; exact h2
  · have h2 : (unionOf B o.after.toList).testBit p = true := by
      rw [← h1.1, Nat.testBit_or, Bool.or_eq_true]; exact .inl hp
    rcases testBit_union B p _ _ h2 with h3 | ⟨e, he, hb, h3⟩
    · simp at h3
    · exact ⟨e, by simpa using he, hb, h3⟩
theorem anc_listed (h : maskOk ops B = true) {listed : Array Bool} (hc : Closed .any ops listed) : ∀ (j : Nat) (o : Oper), ops[j]? = some o → (∀ e ∈ o.after, Region.binds .any e = true → listed.getD e.on false = true) → ∀ p, aft B j p = true → listed.getD p false = true := by
  intro j
  induction j using Nat.strongRecOn with
  | ind j ih =>
    intro o hj hall p hp
    obtain ⟨h1, h2⟩ := maskOk_spec h hj
    obtain ⟨e, he, hb, h3⟩ := h2 p hp
    rcases h3 with rfl | h3
    · exact hall e he hb
    · have hon := hall e he hb
      have hlt : e.on < ops.size := by
        have := (Array.getElem?_eq_some_iff.1 hj).1
        have := h1 e he hb
        omega
      exact ih e.on (h1 e he hb) ops[e.on] (Array.getElem?_eq_getElem hlt) (fun e' he' hb' => hc e.on _ (Array.getElem?_eq_getElem hlt) hon e' he' hb') p h3
theorem apartOk_spec (h : apartOk ops B = true) {i j : Nat} {x y : Oper} (hx : ops[i]? = some x) (hy : ops[j]? = some y) (hij : i < j) (ha : aft B j i = false) : x.apart ops y = true := by
  have hlt : j < ops.size := (Array.getElem?_eq_some_iff.1 hy).1
  have h1 := List.all_eq_true.1 (List.all_eq_true.1 h j (List.mem_range.2 hlt)) i (List.mem_range.2 hij)
  simpa [hx, hy, ha] using h1
end
section
variable {C : Ctx} {w0 : World} {pb : Nat → Option Nat} {F0 : Nat → Nat → Prop} {Ds : List Deferred} {ops : Array Oper} {B : Array Nat}
/-- Of two steps that aren't one behind the other neither looks at what the other one writes. -/
def PairOk (B : Array Nat) (tr : List (Nat × FP)) : Prop := ∀ x ∈ tr, ∀ y ∈ tr, x.1 < y.1 → aft B y.1 x.1 = false → disj x.2 y.2 = true
theorem run_front (hap : apartOk ops B = true) {i : Nat} {oi : Oper} (hi : ops[i]? = some oi) {l2 : List Nat} : ∀ (l1 : List Nat) (s s' : St) (tr : List (Nat × FP)), RunR C ops (l1 ++ i :: l2) s tr s' → (∀ p ∈ l1, p < i ∧ aft B i p = false) → PairOk B tr →
    ∃ fi tr', RunR C ops (i :: (l1 ++ l2)) s ((i, fi) :: tr') s' ∧ ∀ x, x ∈ ((i, fi) :: tr') ↔ x ∈ tr
  | [], s, s', tr, h, _, _ => by
    cases h with
    | cons _ _ _ _ o e tr' ho hy hr => exact ⟨e.fp, tr', .cons i _ s s' o e tr' ho hy hr, fun _ => Iff.rfl⟩
  | p :: l1, s, s', tr, h, hp, hok => by
    cases h with
    | cons _ _ _ _ o e tr' ho hy hr =>
      obtain ⟨fi, tr2, h1, h2⟩ := run_front hap hi l1 _ s' tr' hr (fun q hq => hp q (List.mem_cons_of_mem _ hq)) (fun x hx y hy => hok x (List.mem_cons_of_mem _ hx) y (List.mem_cons_of_mem _ hy))
      have hpi := hp p List.mem_cons_self
      have hd : disj e.fp fi = true := hok (p, e.fp) List.mem_cons_self (i, fi) (List.mem_cons_of_mem _ ((h2 _).1 List.mem_cons_self)) hpi.1 hpi.2
      refine ⟨fi, (p, e.fp) :: tr2, swap_run ho hi (apartOk_spec hap ho hi hpi.1 hpi.2) hd (.cons p _ s s' o e _ ho hy h1), fun x => ?_⟩
      have := h2 x
      simp only [List.mem_cons] at this ⊢
      rw [← this]
      constructor
      · rintro (h | h | h)
        · exact .inr (.inl h)
        · exact .inl h
        · exact .inr (.inr h)
      · rintro (h | h | h)
        · exact .inr (.inl h)
        · exact .inl h
        · exact .inr (.inr h)
theorem any_sound (hB : maskOk ops B = true) (hap : apartOk ops B = true) {Q : Exit → Act → World → Prop} : ∀ (fuel : Nat) (L : List Nat) (s s' : St) (tr : List (Nat × FP)) (listed : Array Bool) (a : Act) (E : Env), L.length = fuel → L.Pairwise (· < ·) → (∀ i, i ∈ L ↔ i < ops.size ∧ listed.getD i false = false) → listed.size = ops.size → Closed .any ops listed →
    RunR C ops L s tr s' → PairOk B tr → RelS C w0 pb F0 Ds s a E → (∀ a' E', RelS C w0 pb F0 Ds s' a' E' → E.le E' → Q .normal a' E'.w) → wpAny C.P .any ops Q fuel listed a E.w
  | 0, L, s, s', tr, listed, a, E, hl, _, hL, _, _, hr, _, h, hq => by
    have : L = [] := List.eq_nil_of_length_eq_zero hl
    subst this
    cases hr
    refine ⟨?_, hq _ _ h (Env.le.refl _)⟩
    apply List.eq_nil_iff_forall_not_mem.2
    intro i hi
    obtain ⟨hun, o, ho, _⟩ := mem_ready.1 hi
    have hlt : i < ops.size := (Array.getElem?_eq_some_iff.1 ho).1
    have : listed.getD i false = false := by
      simp only [Array.getD_eq_getD_getElem?] at hun ⊢
      cases hq' : listed[i]? with
      | none => rfl
      | some b => rw [hq'] at hun; simpa using hun
    exact absurd ((hL i).2 ⟨hlt, this⟩) (by simp)
  | fuel + 1, L, s, s', tr, listed, a, E, hl, hso, hL, hsz, hcl, hr, hok, h, hq => by
    have hun : ∀ i, i ∈ Region.ready .any ops listed → i ∈ L := fun i hi => by
      obtain ⟨hun, o, ho, _⟩ := mem_ready.1 hi
      have hlt : i < ops.size := (Array.getElem?_eq_some_iff.1 ho).1
      refine (hL i).2 ⟨hlt, ?_⟩
      simp only [Array.getD_eq_getD_getElem?] at hun ⊢
      cases hq' : listed[i]? with
      | none => rfl
      | some b => rw [hq'] at hun; simpa using hun
    constructor
    · intro h0
      exfalso
      cases L with
      | nil => simp at hl
      | cons i l =>
        have hi := (hL i).1 List.mem_cons_self
        obtain ⟨h1, _⟩ := maskOk_spec hB (Array.getElem?_eq_getElem hi.1)
        have : i ∈ Region.ready .any ops listed := by
          refine mem_ready.2 ⟨?_, ops[i], Array.getElem?_eq_getElem hi.1, fun e he hb => ?_⟩
          · have h2 := hi.2
            have hlt : i < listed.size := by rw [hsz]; exact hi.1
            simpa [Array.getD, hlt] using h2
          · have hon := h1 e he hb
            apply Classical.byContradiction
            intro hne
            have hne : listed.getD e.on false = false := by simpa using hne
            have hm := (hL e.on).2 ⟨by omega, hne⟩
            rcases List.mem_cons.1 hm with hm | hm
            · omega
            · have := (List.pairwise_cons.1 hso).1 _ hm
              omega
        rw [h0] at this
        cases this
    · intro i hi
      have hiL := hun i hi
      obtain ⟨l1, l2, rfl⟩ := List.append_of_mem hiL
      obtain ⟨hun', oi, hoi, hall⟩ := mem_ready.1 hi
      have hilt : i < ops.size := (Array.getElem?_eq_some_iff.1 hoi).1
      have hp : ∀ p ∈ l1, p < i ∧ aft B i p = false := fun p hpm => by
        refine ⟨(List.pairwise_append.1 hso).2.2 p hpm i List.mem_cons_self, ?_⟩
        apply Classical.byContradiction
        intro hne
        have hne : aft B i p = true := by simpa using hne
        have h1 := anc_listed hB hcl i oi hoi hall p hne
        have h2 := ((hL p).1 (List.mem_append_left _ hpm)).2
        rw [h1] at h2
        cases h2
      obtain ⟨fi, tr', hr', hmem⟩ := run_front hap hoi l1 s s' tr hr hp hok
      cases hr' with
      | cons _ _ _ _ o e _ ho hy hr2 =>
        rw [hoi] at ho
        injection ho with ho
        subst ho
        refine yld_sound h hoi hy fun a' E' h' hle => ?_
        have hnd : (l1 ++ i :: l2).Nodup := hso.imp (fun h => Nat.ne_of_lt h)
        have hni : i ∉ l1 ++ l2 := by
          have := List.nodup_append.1 hnd
          intro hm
          rcases List.mem_append.1 hm with hm | hm
          · exact this.2.2 i hm i List.mem_cons_self rfl
          · exact (List.nodup_cons.1 this.2.1).1 hm
        refine any_sound hB hap fuel (l1 ++ l2) _ s' tr' _ a' E' ?_ ?_ (fun k => ?_) (by simpa using hsz) (hcl.set hi) hr2 (fun x hx y hy => hok x ((hmem x).1 (List.mem_cons_of_mem _ hx)) y ((hmem y).1 (List.mem_cons_of_mem _ hy))) h' (fun a2 E2 h2 hle2 => hq a2 E2 h2 (hle.trans hle2))
        · simp only [List.length_append, List.length_cons] at hl ⊢; omega
        · exact hso.sublist (List.Sublist.append_left (List.sublist_cons_self i l2) l1)
        · have := hL k
          by_cases hk : k = i
          · subst hk
            refine ⟨fun hm => absurd hm hni, fun hm => ?_⟩
            have h2 := hm.2
            have hlt : k < listed.size := by rw [hsz]; exact hilt
            simp [Array.getD, hlt] at h2
          · have e1 : (listed.setIfInBounds i true).getD k false = listed.getD k false := by
              simp only [Array.getD_eq_getD_getElem?]
              rw [Array.getElem?_setIfInBounds_ne (fun e => hk e.symm)]
            rw [e1, ← this]
            simp only [List.mem_append, List.mem_cons]
            constructor
            · rintro (h | h)
              · exact .inl h
              · exact .inr (.inr h)
            · rintro (h | h | h)
              · exact .inl h
              · exact absurd h hk
              · exact .inr h
theorem run_idx {l : List Nat} {s s' : St} {tr : List (Nat × FP)} (h : RunR C ops l s tr s') : tr.map (·.1) = l := by
  induction h with
  | nil => rfl
  | cons i l s s' o e tr hi hy h ih => rw [List.map_cons, ih]
theorem traceOk_spec {tr : List (Nat × FP)} {n : Nat} (hidx : tr.map (·.1) = List.range n) (h : traceOk ops (tr.map (·.2)) = true) : PairOk (Region.before ops) tr := by
  intro x hx y hy hlt ha
  have hz : ∀ x ∈ tr, (x.2, x.1) ∈ (tr.map (·.2)).zipIdx := fun x hx => by
    obtain ⟨j, hj, rfl⟩ := List.mem_iff_getElem.1 hx
    have e1 : tr[j].1 = j := by
      have h1 : (tr.map (·.1))[j]? = some tr[j].1 := by simp [hj]
      rw [hidx] at h1
      have hjn : j < n := by have := congrArg List.length hidx; simp at this; omega
      rw [List.getElem?_range hjn] at h1
      exact (Option.some.inj h1).symm
    rw [List.mem_iff_getElem]
    refine ⟨j, by simpa using hj, ?_⟩
    simp [e1]
  simp only [traceOk, Bool.or_eq_true] at h
  rcases h with h | h
  · have h1 := List.all_eq_true.1 h x.2 (List.mem_map.2 ⟨x, hx, rfl⟩)
    have h2 := List.all_eq_true.1 h y.2 (List.mem_map.2 ⟨y, hy, rfl⟩)
    have e1 : x.2.2 = [] := by simpa using h1
    have e2 : y.2.2 = [] := by simpa using h2
    simp [disj, e1, e2]
  · have h1 := List.all_eq_true.1 (List.all_eq_true.1 h _ (hz y hy)) _ (hz x hx)
    simp only [Bool.or_eq_true, Bool.not_eq_true'] at h1
    rcases h1 with (h1 | h1) | h1
    · exact absurd hlt (nblt_false h1)
    · rw [ha] at h1; cases h1
    · exact h1
/-- Steps that write no box: what they leave. -/
theorem run_quiet {l : List Nat} {s s' : St} {tr : List (Nat × FP)} (h : RunR C ops l s tr s') (hq : ∀ x ∈ tr, x.2.2 = []) : s'.hp = s.hp ∧ ∀ t, (∀ i ∈ l, ∀ o, ops[i]? = some o → o.dst ≠ some t) → s'.tm t = s.tm t := by
  induction h with
  | nil => exact ⟨rfl, fun _ _ => rfl⟩
  | cons i l s s' o e tr hi hy h ih =>
    have hw : e.wr = [] := by
      have h0 : e.wr.map (·.1) = [] := hq (i, e.fp) List.mem_cons_self
      exact List.map_eq_nil_iff.1 h0
    obtain ⟨h1, h2⟩ := ih (fun x hx => hq x (List.mem_cons_of_mem _ hx))
    refine ⟨h1.trans ?_, fun t ht => ?_⟩
    · show applyW s.hp e.wr = s.hp
      rw [hw]; rfl
    · rw [h2 t (fun j hj => ht j (List.mem_cons_of_mem _ hj))]
      show (s.put o.dst e.v).tm t = s.tm t
      rw [St.put_tm, if_neg]
      rintro ⟨e', _⟩
      exact ht i List.mem_cons_self o hi e'
theorem pairOk_quiet {tr : List (Nat × FP)} (hq : ∀ x ∈ tr, x.2.2 = []) : PairOk B tr := fun x hx y hy _ _ => by
  unfold disj
  rw [hq x hx, hq y hy]
  rfl
theorem dieOp_congr {op : Op} {ρ ρ' : Operand → PV} {hp : Nat → HC} {D : Value → List (Nat × HC) → Prop} (h : ∀ x ∈ op.operands, ρ x = ρ' x) (hd : dieOp C ρ op hp D) : dieOp C ρ' op hp D := by
  unfold dieOp at hd ⊢
  split at hd
  · rename_i c
    have hargs : ∀ x ∈ c.args, ρ x = ρ' x := fun x hx => h x (by simp [Op.operands, Call.operands]; exact .inr hx)
    have e1 : (c.args.toList.map fun a => (ρ a).dem) = c.args.toList.map fun a => (ρ' a).dem := List.map_congr_left fun a ha => by rw [hargs a (by simpa using ha)]
    cases hc : c.callee with
    | value f =>
      have hf : ρ f = ρ' f := h f (by simp [Op.operands, Call.operands, hc])
      rw [hc] at hd
      cases f <;> simp only at hd ⊢ <;> first | (rw [← e1]; exact hd) | (rw [← hf, ← e1]; exact hd)
    | invoke r m => rw [hc] at hd; exact hd.elim
    | builtin b => rw [hc] at hd; exact hd.elim
  · rename_i x
    rw [← h x (by simp [Op.operands])]
    exact hd
  · exact hd.elim
/-- In the text's order: some steps, and then a panic. -/
theorem seq_die {Q : Exit → Act → World → Prop} {d : Nat} {rest : List Nat} : ∀ {l : List Nat} {s s' : St} {tr : List (Nat × FP)} {a : Act} {E : Env}, RunR C ops l s tr s' → RelS C w0 pb F0 Ds s a E → (∀ a' E', RelS C w0 pb F0 Ds s' a' E' → E.le E' → wpOps C.P ops Q (d :: rest) a' E'.w) → wpOps C.P ops Q (l ++ d :: rest) a E.w
  | [], _, _, _, _, _, hr, h, hq => by
    cases hr
    exact hq _ _ h (Env.le.refl _)
  | i :: l, _, _, _, _, _, hr, h, hq => by
    cases hr with
    | cons _ _ _ _ o e tr hi hy hr =>
      show wpOps C.P ops Q (i :: (l ++ d :: rest)) _ _
      rw [wpOps_cons]
      exact yld_sound h hi hy fun a' E' h' hle => seq_die hr h' fun a2 E2 h2 hle2 => hq a2 E2 h2 (hle.trans hle2)
theorem die_op {d : Nat} {od : Oper} (hd : ops[d]? = some od) (hg : od.guard = none) {s : St} {a : Act} {E : Env} (h : RelS C w0 pb F0 Ds s a E) {D : Value → List (Nat × HC) → Prop} (hdie : dieOp C (C.ev s) od.op s.hp D) {K : Act → World → Prop} {Q : Exit → Act → World → Prop}
    (hq : ∀ x wr E', D x wr → HR C w0 pb F0 (applyW s.hp wr) E' → E.le E' → Q (.panic [{ v := x, recovered := false }]) a E'.w) : wpOp C.P ops Q d K a E.w := by
  unfold wpOp
  rw [hd]
  simp only
  rw [if_pos (by unfold Region.wanted; rw [hg])]
  exact .inl (die_sound h.h h.ev hdie hq)
/-- Whatever order: some steps that write nothing, and a panic, behind which all others come. -/
theorem die_any (hB : maskOk ops B = true) (hap : apartOk ops B = true) {d : Nat} {od : Oper} (hd : ops[d]? = some od) (hg : od.guard = none) (haft : ∀ j, d < j → j < ops.size → aft B j d = true) {D : Value → List (Nat × HC) → Prop} {Q : Exit → Act → World → Prop} :
    ∀ (fuel : Nat) (L : List Nat) (s s' : St) (tr : List (Nat × FP)) (listed : Array Bool) (a : Act) (E : Env), L.length < fuel → L.Pairwise (· < ·) → (∀ i, i ∈ L ↔ i < d ∧ listed.getD i false = false) → listed.getD d false = false → listed.size = ops.size → Closed .any ops listed →
    RunR C ops L s tr s' → (∀ x ∈ tr, x.2.2 = []) → dieOp C (C.ev s') od.op s'.hp D → RelS C w0 pb F0 Ds s a E →
    (∀ s2 a2 E2 x wr E3, s2.n = s.n → s2.np = s.np → s2.hp = s.hp → RelS C w0 pb F0 Ds s2 a2 E2 → E.le E2 → D x wr → HR C w0 pb F0 (applyW s2.hp wr) E3 → E2.le E3 → Q (.panic [{ v := x, recovered := false }]) a2 E3.w) → wpAny C.P .any ops Q fuel listed a E.w
  | 0, L, _, _, _, _, _, _, hl, _, _, _, _, _, _, _, _, _, _ => absurd hl (by omega)
  | fuel + 1, L, s, s', tr, listed, a, E, hl, hso, hL, hdl, hsz, hcl, hr, hqt, hdie, h, hq => by
    have hdlt : d < ops.size := (Array.getElem?_eq_some_iff.1 hd).1
    have unl : ∀ i, i ∈ Region.ready .any ops listed → i < ops.size ∧ listed.getD i false = false := fun i hi => by
      obtain ⟨hun, o, ho, _⟩ := mem_ready.1 hi
      have hlt : i < ops.size := (Array.getElem?_eq_some_iff.1 ho).1
      refine ⟨hlt, ?_⟩
      simp only [Array.getD_eq_getD_getElem?] at hun ⊢
      cases hq' : listed[i]? with
      | none => rfl
      | some b => rw [hq'] at hun; simpa using hun
    have rdy : ∀ i, i < ops.size → listed.getD i false = false → (∀ k, k < i → listed.getD k false = true) → i ∈ Region.ready .any ops listed := fun i hi hu hk => by
      obtain ⟨h1, _⟩ := maskOk_spec hB (Array.getElem?_eq_getElem hi)
      refine mem_ready.2 ⟨?_, ops[i], Array.getElem?_eq_getElem hi, fun e he hb => hk _ (h1 e he hb)⟩
      have hlt : i < listed.size := by rw [hsz]; exact hi
      simpa [Array.getD, hlt] using hu
    constructor
    · intro h0
      exfalso
      have key : ∃ i, i ∈ Region.ready .any ops listed := by
        cases L with
        | nil =>
          refine ⟨d, rdy d hdlt hdl fun k hk => ?_⟩
          apply Classical.byContradiction
          intro hne
          have := (hL k).2 ⟨hk, by simpa using hne⟩
          cases this
        | cons i l =>
          have hi := (hL i).1 List.mem_cons_self
          refine ⟨i, rdy i (by omega) hi.2 fun k hk => ?_⟩
          apply Classical.byContradiction
          intro hne
          have hm := (hL k).2 ⟨by omega, by simpa using hne⟩
          rcases List.mem_cons.1 hm with hm | hm
          · omega
          · have := (List.pairwise_cons.1 hso).1 _ hm
            omega
      obtain ⟨i, hi⟩ := key
      rw [h0] at hi
      cases hi
    · intro i hi
      obtain ⟨hilt, hiu⟩ := unl i hi
      obtain ⟨_, oi, hoi, hall⟩ := mem_ready.1 hi
      rcases Nat.lt_trichotomy i d with hid | hid | hid
      · have hiL := (hL i).2 ⟨hid, hiu⟩
        obtain ⟨l1, l2, rfl⟩ := List.append_of_mem hiL
        have hp : ∀ p ∈ l1, p < i ∧ aft B i p = false := fun p hpm => by
          refine ⟨(List.pairwise_append.1 hso).2.2 p hpm i List.mem_cons_self, ?_⟩
          apply Classical.byContradiction
          intro hne
          have hne : aft B i p = true := by simpa using hne
          have h1 := anc_listed hB hcl i oi hoi hall p hne
          have h2 := ((hL p).1 (List.mem_append_left _ hpm)).2
          rw [h1] at h2
          cases h2
        obtain ⟨fi, tr', hr', hmem⟩ := run_front hap hoi l1 s s' tr hr hp (pairOk_quiet hqt)
        cases hr' with
        | cons _ _ _ _ o e _ ho hy hr2 =>
          rw [hoi] at ho
          injection ho with ho
          subst ho
          have hwr : e.wr = [] := by
            have h0 : e.wr.map (·.1) = [] := hqt (i, e.fp) ((hmem _).1 List.mem_cons_self)
            exact List.map_eq_nil_iff.1 h0
          have hnd : (l1 ++ i :: l2).Nodup := hso.imp (fun h => Nat.ne_of_lt h)
          have hni : i ∉ l1 ++ l2 := by
            have := List.nodup_append.1 hnd
            intro hm
            rcases List.mem_append.1 hm with hm | hm
            · exact this.2.2 i hm i List.mem_cons_self rfl
            · exact (List.nodup_cons.1 this.2.1).1 hm
          have hset : ∀ k, k ≠ i → (listed.setIfInBounds i true).getD k false = listed.getD k false := fun k hk => by
            simp only [Array.getD_eq_getD_getElem?]
            rw [Array.getElem?_setIfInBounds_ne (fun e => hk e.symm)]
          refine yld_sound h hoi hy fun a' E' h' hle => ?_
          refine die_any hB hap hd hg haft fuel (l1 ++ l2) _ s' tr' _ a' E' ?_ ?_ (fun k => ?_) ?_ (by simpa using hsz) (hcl.set hi) hr2 (fun x hx => hqt x ((hmem x).1 (List.mem_cons_of_mem _ hx))) hdie h' (fun s2 a2 E2 x wr E3 q1 q2 q3 q4 q5 q6 q7 q8 => hq s2 a2 E2 x wr E3 (q1.trans (St.put_n s oi.dst e.v)) (q2.trans (St.put_np s oi.dst e.v)) (q3.trans ?_) q4 (hle.trans q5) q6 q7 q8)
          · simp only [List.length_append, List.length_cons] at hl ⊢; omega
          · exact hso.sublist (List.Sublist.append_left (List.sublist_cons_self i l2) l1)
          · have := hL k
            by_cases hk : k = i
            · subst hk
              refine ⟨fun hm => absurd hm hni, fun hm => ?_⟩
              have h2 := hm.2
              have hlt : k < listed.size := by rw [hsz]; exact hilt
              simp [Array.getD, hlt] at h2
            · rw [hset k hk, ← this]
              simp only [List.mem_append, List.mem_cons]
              constructor
              · rintro (h | h)
                · exact .inl h
                · exact .inr (.inr h)
              · rintro (h | h | h)
                · exact .inl h
                · exact absurd h hk
                · exact .inr h
          · rw [hset d (by omega)]; exact hdl
          · show applyW s.hp e.wr = s.hp
            rw [hwr]; rfl
      · subst hid
        have hod : oi = od := by rw [hoi] at hd; injection hd
        subst hod
        obtain ⟨r1, r2⟩ := run_quiet hr hqt
        have hdie' : dieOp C (C.ev s) oi.op s.hp D := by
          rw [r1] at hdie
          refine dieOp_congr (fun x hx => ?_) hdie
          cases x with
          | tmp t =>
            refine r2 t fun k hk ok hok hdst => ?_
            have hkl := (hL k).1 hk
            have ha : aft B i k = false := by
              apply Classical.byContradiction
              intro hne
              have h1 := anc_listed hB hcl i oi hoi hall k (by simpa using hne)
              rw [hkl.2] at h1
              cases h1
            have hap' := (Oper.apart_spec (apartOk_spec hap hok hoi hkl.1 ha)).1 t hdst
            exact hap' (by
              unfold Oper.looksAt
              exact List.mem_append_left _ (List.mem_filterMap.2 ⟨.tmp t, by simpa using hx, rfl⟩))
          | _ => rfl
        exact die_op hoi hg h hdie' fun x wr E' hD hR hle => hq s a E x wr E' rfl rfl rfl h (Env.le.refl E) hD hR hle
      · exfalso
        have h1 := anc_listed hB hcl i oi hoi hall d (haft i hid hilt)
        rw [hdl] at h1
        cases h1
end
end Go.Proofs.YtddggjmfplohkaaDoor
/- Code of the machine of plain values, loops, and what a function's body says of its calls; no program is named here. -/
namespace Go.Proofs.YtddggjmfplohkaaDoor
open Go.RowKit
def look : List (Nat × HC) → Nat → HC
  | [], _ => .none
  | (k, c) :: l, i => match Nat.beq i k with
    | true => c
    | false => look l i
/-- A state by its slots, the next number, and what is under numbers. -/
def mkS (n np : Nat) (l : List PV) (m : Nat) (h : List (Nat × HC)) : St := ⟨n, np, fun t => l.getD t .top, fun b => match b with | 0 => .num m | b + 1 => look h (b + 1)⟩
def slotsOk (s : St) : Nat → List PV → Prop
  | _, [] => True
  | t, .top :: l => slotsOk s (t + 1) l
  | t, p :: l => s.tm t = p ∧ slotsOk s (t + 1) l
/-- Nothing lies under the number yet. -/
def freeAt (s : St) (b : Nat) : Bool :=
  match s.hp 0 with
  | .num m => match Nat.ble m b with
    | true => true
    | false => match s.hp b with
      | .free => true
      | _ => false
  | _ => false
def heapOk (s : St) : List (Nat × HC) → Prop
  | [] => True
  | (b, .free) :: l => freeAt s b = true ∧ heapOk s l
  | (b, .mp es) :: l => (match s.hp b with
    | .mpo es' => (es'.map fun p => (p.1, p.2.dem1)) = es ∧ (es'.all fun p => p.2.leaf) = true
    | c => c = .mp es) ∧ heapOk s l
  | (b, c) :: l => s.hp b = c ∧ heapOk s l
def PV.bnd0 (m : Nat) : PV → Bool
  | .ptr b _ => Nat.blt b m
  | .slb b _ _ _ => Nat.blt b m
  | .mp b => Nat.blt b m
  | .mth _ b _ => Nat.blt b m
  | .sl (.own t) _ => Nat.blt t m
  | .agg _ => false
  | .tup _ => false
  | .clo _ _ => false
  | _ => true
def PV.bnd1 (m : Nat) : PV → Bool
  | .clo _ caps => caps.all fun c => match c with | .agg ds => ds.all (PV.bnd0 m) | c => c.bnd0 m
  | c => c.bnd0 m
def PV.bnd (m : Nat) : PV → Bool
  | .agg cs => cs.all (PV.bnd1 m)
  | .tup cs => cs.all fun c => match c with | .agg ds => ds.all (PV.bnd1 m) | c => c.bnd1 m
  | c => c.bnd1 m
def heapBnd (m : Nat) : List (Nat × HC) → Bool
  | [] => true
  | (b, c) :: l => Nat.blt 0 b && Nat.blt b m && (match c with
    | .cells cs => cs.all (PV.bnd1 m)
    | .row _ _ => true
    | .ice _ => true
    | .mp _ => true
    | .mpo es => es.all fun p => p.2.bnd0 m
    | .bld _ _ _ => true
    | .free => true
    | _ => false) && heapBnd m l
/-- The other state says less: slots are forgotten, and numbers. -/
def Sub (s : St) (l : List PV) (m : Nat) (h : List (Nat × HC)) : Prop :=
  slotsOk s 0 l ∧ heapOk s h ∧ (Nat.blt s.np m && l.all (PV.bnd m) && heapBnd m h) = true
abbrev Inv := Nat → List PV → Nat → List (Nat × HC) → Prop
theorem look_ok {s : St} : ∀ {h : List (Nat × HC)} {m : Nat}, heapOk s h → heapBnd m h = true → ∀ b, look h b = .none ∨ ((look h b = s.hp b ∨ (look h b = .free ∧ freeAt s b = true) ∨ ∃ es es', look h b = .mp es ∧ s.hp b = .mpo es' ∧ (es'.map fun p => (p.1, p.2.dem1)) = es ∧ (es'.all fun p => p.2.leaf) = true) ∧ 0 < b ∧ b < m ∧ (∀ k, look h b ≠ .num k) ∧ (∀ cs, look h b = .cells cs → cs.all (PV.bnd1 m) = true) ∧ ∀ es, look h b = .mpo es → (es.all fun p => p.2.bnd0 m) = true)
  | [], _, _, _, _ => .inl rfl
  | (k, c) :: l, m, h, hb, b => by
    simp only [heapBnd, Bool.and_eq_true] at hb
    have h' : (c = s.hp k ∨ (c = .free ∧ freeAt s k = true) ∨ ∃ es es', c = .mp es ∧ s.hp k = .mpo es' ∧ (es'.map fun p => (p.1, p.2.dem1)) = es ∧ (es'.all fun p => p.2.leaf) = true) ∧ heapOk s l := by
      cases c with
      | mp es =>
        obtain ⟨h1, h2⟩ := h
        refine ⟨?_, h2⟩
        split at h1
        · rename_i es' he
          exact .inr (.inr ⟨es, es', rfl, he, h1.1, h1.2⟩)
        · exact .inl h1.symm
      | _ => first | exact ⟨.inl h.1.symm, h.2⟩ | exact ⟨.inr (.inl ⟨rfl, h.1⟩), h.2⟩
    unfold look
    split
    · rename_i e
      have e := Nat.eq_of_beq_eq_true e
      subst e
      have h1 := hb.1.1.1
      have h2 := hb.1.1.2
      rw [Nat.blt_eq] at h1 h2
      refine .inr ⟨h'.1, h1, h2, fun q hq => ?_, fun cs hcs => ?_, fun es hes => ?_⟩
      · subst hq; have := hb.1.2; simp at this
      · subst hcs; exact hb.1.2
      · subst hes; exact hb.1.2
    · exact look_ok h'.2 hb.2 b
theorem slots_ok {s : St} : ∀ {l : List PV} {t : Nat}, slotsOk s t l → ∀ i, l.getD i .top = .top ∨ l.getD i .top = s.tm (t + i)
  | [], _, _, _ => .inl (by simp)
  | p :: l, t, h, i => by
    have hl : slotsOk s (t + 1) l := by cases p <;> first | exact h.2 | exact h
    cases i with
    | zero =>
      cases p <;> first | exact .inl rfl | exact .inr h.1.symm
    | succ i =>
      have := slots_ok hl i
      rw [show t + 1 + i = t + (i + 1) by omega] at this
      simpa [List.getD] using this
section
variable {C : Ctx} {w0 : World} {pb : Nat → Option Nat} {F0 : Nat → Nat → Prop} {Ds : List Deferred} {s : St} {a : Act} {E : Env}
/-- Numbers from m on are forgotten. -/
def Env.cut (E : Env) (m : Nat) : Env := ⟨E.w, E.F, fun b => if b < m then E.β b else none, fun b => if b < m then E.O b else none⟩
theorem Env.cut_le {E0 E : Env} {k m : Nat} (h : (E0.cut k).le E) (hk : k ≤ m) : (E0.cut k).le (E.cut m) := ⟨h.F, h.w, fun b g hb => by
    have hlt : b < k := by
      rcases Nat.lt_or_ge b k with hlt | hge
      · exact hlt
      · have : (E0.cut k).β b = none := if_neg (by omega)
        rw [this] at hb; cases hb
    exact (if_pos (Nat.lt_of_lt_of_le hlt hk)).trans (h.β b g hb), fun t v n ht => by
    have hlt : t < k := by
      rcases Nat.lt_or_ge t k with hlt | hge
      · exact hlt
      · have : (E0.cut k).O t = none := if_neg (by omega)
        rw [this] at ht; cases ht
    obtain ⟨v', n', e, q⟩ := h.O t v n ht
    exact ⟨v', n', (if_pos (Nat.lt_of_lt_of_le hlt hk)).trans e, q⟩⟩
theorem Env.cut_self (E : Env) (k : Nat) : (E.cut k).le E := by
  refine ⟨fun _ _ h => h, fun _ _ _ => rfl, fun b g hb => ?_, fun t v n ht => ?_⟩
  · by_cases hlt : b < k
    · exact (if_pos hlt).symm.trans hb
    · have : (E.cut k).β b = none := if_neg hlt
      rw [this] at hb; cases hb
  · by_cases hlt : t < k
    · exact ⟨v, n, (if_pos hlt).symm.trans ht, Nat.le_refl _, fun _ => rfl⟩
    · have : (E.cut k).O t = none := if_neg hlt
      rw [this] at ht; cases ht
theorem Rep.cut0 {m : Nat} {p : PV} {x : Value} (r : Rep E p x) (h : p.bnd0 m = true) : Rep (E.cut m) p x := by
  cases p with
  | v y => rw [show x = y by cases r; rfl]; exact .v _
  | top => exact .top _
  | ptr b off =>
    cases r with
    | ptr _ _ g hg =>
      have hb : b < m := Nat.blt_eq ▸ h
      exact .ptr b off g ((if_pos hb).trans hg)
  | mth f b off =>
    cases r with
    | mth _ _ _ g hg =>
      have hb : b < m := Nat.blt_eq ▸ h
      exact .mth f b off g ((if_pos hb).trans hg)
  | slb b off n sz =>
    cases r with
    | slb _ _ _ _ g o c hg ho h1 h2 =>
      have hb : b < m := Nat.blt_eq ▸ h
      exact .slb b off n sz g o c ((if_pos hb).trans hg) ho h1 h2
  | mp b =>
    cases r with
    | mp _ g hg =>
      have hb : b < m := Nat.blt_eq ▸ h
      exact .mp b g ((if_pos hb).trans hg)
  | ro cs => cases r with | ro _ g o val hc hr => exact .ro cs g o val hc hr
  | sl k es =>
    cases r with
    | sl _ _ A c g o sz val h1 h2 h3 h4 h5 h6 hc hr =>
      refine .sl k es A c g o sz val h1 h2 h3 (fun t ht => ?_) h5 h6 hc hr
      subst ht
      have hb : t < m := Nat.blt_eq ▸ h
      obtain ⟨v, n, e, q⟩ := h4 t rfl
      exact ⟨v, n, (if_pos hb).trans e, q⟩
  | _ => simp [PV.bnd0] at h
theorem Rep.cut1 {m : Nat} {p : PV} {x : Value} (r : Rep E p x) (h : p.bnd1 m = true) : Rep (E.cut m) p x := by
  cases p with
  | clo f caps =>
    cases r with
    | clo _ _ vs hl hr =>
      refine .clo f _ _ hl fun i hi => ?_
      have h1 := List.all_eq_true.1 h caps[i] (List.getElem_mem hi)
      have h2 := hr i hi
      rw [getD_eq hi] at h2 ⊢
      generalize caps[i] = q at *
      generalize vs.getD i undef = z at *
      cases q with
      | agg ds =>
        cases h2 with
        | agg _ us hl' hr' =>
          refine .agg _ _ hl' fun j hj => (hr' j hj).cut0 ?_
          rw [getD_eq hj]
          exact List.all_eq_true.1 h1 _ (List.getElem_mem hj)
      | _ => exact h2.cut0 h1
  | _ => exact r.cut0 h
theorem Rep.cut {m : Nat} {p : PV} {x : Value} (r : Rep E p x) (h : p.bnd m = true) : Rep (E.cut m) p x := by
  cases p with
  | agg cs =>
    cases r with
    | agg _ vs hl hr =>
      refine .agg _ _ hl fun i hi => (hr i hi).cut1 ?_
      rw [getD_eq hi]
      exact List.all_eq_true.1 h _ (List.getElem_mem hi)
  | tup cs =>
    cases r with
    | tup _ vs hl hr =>
      refine .tup _ _ hl fun i hi => ?_
      have h1 := List.all_eq_true.1 h cs[i] (List.getElem_mem hi)
      have h2 := hr i hi
      rw [getD_eq hi] at h2 ⊢
      generalize cs[i] = q at *
      generalize vs.getD i undef = z at *
      cases q with
      | agg ds =>
        cases h2 with
        | agg _ us hl' hr' =>
          refine .agg _ _ hl' fun j hj => (hr' j hj).cut1 ?_
          rw [getD_eq hj]
          exact List.all_eq_true.1 h1 _ (List.getElem_mem hj)
      | _ => exact h2.cut1 h1
  | _ => exact r.cut1 h
theorem RelS.sub (h : RelS C w0 pb F0 Ds s a E) {l : List PV} {m : Nat} {hp : List (Nat × HC)} (hs : Sub s l m hp) : RelS C w0 pb F0 Ds (mkS s.n s.np l m hp) a (E.cut m) := by
  obtain ⟨h1, h2, h3⟩ := hs
  simp only [Bool.and_eq_true] at h3
  have hnpm : s.np < m := Nat.blt_eq ▸ h3.1.1
  have hm : 0 < m := by omega
  have hlk := look_ok h2 h3.2
  have hhp : ∀ b, b ≠ 0 → (mkS s.n s.np l m hp).hp b = look hp b := fun b hb => by
    cases b with
    | zero => exact absurd rfl hb
    | succ b => rfl
  have hβ : ∀ b, b < m → (E.cut m).β b = E.β b := fun b hb => if_pos hb
  have hO : ∀ b, b < m → (E.cut m).O b = E.O b := fun b hb => if_pos hb
  have hβn : ∀ b g, (E.cut m).β b = some g → b < m ∧ E.β b = some g := fun b g hb => by
    by_cases hlt : b < m
    · exact ⟨hlt, (hβ b hlt).symm.trans hb⟩
    · have : (E.cut m).β b = none := if_neg hlt
      rw [this] at hb; cases hb
  refine ⟨⟨⟨h.h.b.gp, h.h.b.gpk, h.h.b.os, h.h.b.tape, h.h.b.output, h.h.b.size, h.h.b.old, h.h.b.gsz, h.h.b.glob, h.h.b.Fin, h.h.b.Fsub, h.h.b.pbin, fun b g h0 hb => (hβ b (Nat.lt_of_le_of_lt (h.np b g hb) hnpm)).trans (h.h.b.kp b g h0 hb)⟩, ?_⟩, h.d, h.n, h.np, fun t => ?_⟩
  · refine ⟨⟨m, rfl, hm, fun b hb => ⟨if_neg (by omega), if_neg (by omega), ?_⟩⟩, fun b hb => ?_, fun b g hb => ?_, fun b b' g hb hb' => ?_, fun t n e ht hrow => ?_, ?_⟩
    · rw [hhp b (by omega)]
      rcases hlk b with h0 | h0
      · exact h0
      · have := h0.2.2.1
        omega
    · rw [hhp b hb]
      rcases hlk b with h0 | ⟨q1, q2, q3, _, q5, q6⟩
      · rw [h0]; trivial
      · have hfree : look hp b = .free → freeAt s b = true → HAt (E.cut m) b .free := fun _ hf => by
          have : E.β b = none ∧ E.O b = none := by
            unfold freeAt at hf
            split at hf
            · rename_i x hx
              obtain ⟨m', z1, z2, z3⟩ := h.h.o.nx
              rw [hx] at z1
              injection z1 with z1
              subst z1
              split at hf
              · rename_i hle
                have := z3 b (Nat.le_of_ble_eq_true hle)
                exact ⟨this.1, this.2.1⟩
              · split at hf
                · rename_i hfr
                  have := h.h.o.at_ b hb
                  rw [hfr] at this
                  exact this
                · cases hf
            · cases hf
          exact ⟨(hβ b q3).trans this.1, (hO b q3).trans this.2⟩
        rcases q1 with q1 | ⟨q1, qf⟩ | ⟨es, es', q1, q4, q7, q8⟩
        rotate_left
        · rw [q1]; exact hfree q1 qf
        · have hat := h.h.o.at_ b hb
          rw [q4] at hat
          obtain ⟨g, ents, ck, e1, e2, e3, e4⟩ := hat
          have hall := List.all_eq_true.1 q8
          rw [q1]
          refine ⟨g, ents, ck, (hβ b q3).trans e1, e2, ⟨by rw [← q7, List.length_map]; exact e3.1.1, fun i k v hi => ?_⟩, e4⟩
          rw [← q7, List.getElem?_map] at hi
          obtain ⟨⟨k', v'⟩, w1, w2⟩ := Option.map_eq_some_iff.1 hi
          injection w2 with w2 w3
          subst w2 w3
          obtain ⟨r1, r2⟩ := e3.2 i k' v' w1
          exact ⟨r1, r2.1.inn_leaf (hall _ (List.mem_of_getElem? w1))⟩
        have hat := h.h.o.at_ b hb
        rw [← q1] at hat
        cases hc : look hp b with
        | cells cs =>
          rw [hc] at hat
          obtain ⟨g, T, vs, e1, e2, e3, e4, e5⟩ := hat
          have hall := List.all_eq_true.1 (q5 cs hc)
          refine ⟨g, T, vs, (hβ b q3).trans e1, e2, ⟨e3.1, fun i hi => ?_⟩, e4, e5⟩
          have := e3.2 i hi
          rw [getD_eq hi] at this ⊢
          exact this.cut1 (hall _ (List.getElem_mem hi))
        | ice cs =>
          rw [hc] at hat
          obtain ⟨g, T, vs, e1, e2, e3, e4, e5⟩ := hat
          exact ⟨g, T, vs, (hβ b q3).trans e1, e2, e3, e4, e5⟩
        | mp es =>
          rw [hc] at hat
          obtain ⟨g, ents, ck, e1, e2, e3, e4⟩ := hat
          exact ⟨g, ents, ck, (hβ b q3).trans e1, e2, e3, e4⟩
        | mpo es =>
          rw [hc] at hat
          obtain ⟨g, ents, ck, e1, e2, e3, e4⟩ := hat
          have hall := List.all_eq_true.1 (q6 es hc)
          exact ⟨g, ents, ck, (hβ b q3).trans e1, e2, ⟨e3.1, fun i k v hi => ⟨(e3.2 i k v hi).1, (e3.2 i k v hi).2.1.cut0 (hall _ (List.mem_of_getElem? hi)), (e3.2 i k v hi).2.2⟩⟩, e4⟩
        | bld T e s' =>
          rw [hc] at hat
          obtain ⟨g, e1, e2⟩ := hat
          exact ⟨g, (hβ b q3).trans e1, e2⟩
        | free =>
          rw [hc] at hat
          exact ⟨(hβ b q3).trans hat.1, (hO b q3).trans hat.2⟩
        | _ => trivial
    · obtain ⟨_, hb⟩ := hβn b g hb
      exact h.h.o.bnew b g hb
    · exact h.h.o.binj b b' g (hβn b g hb).2 (hβn b' g hb').2
    · rw [hhp t ht] at hrow
      rcases hlk t with h0 | ⟨q1, q2, q3, _⟩
      · rw [h0] at hrow; cases hrow
      · rcases q1 with q1 | ⟨q1, _⟩ | ⟨_, _, q1, _⟩
        rotate_left
        · rw [q1] at hrow; cases hrow
        · rw [q1] at hrow; cases hrow
        rw [q1] at hrow
        obtain ⟨A, c, e1, e2, e3, e4⟩ := h.h.o.own t n e ht hrow
        refine ⟨A, c, (hO t q3).trans e1, e2, e3, ?_⟩
        rcases e4 with e4 | ⟨g, cur, sz, p1, p2, p3, p4, p5, p6, p7, p8⟩
        · exact .inl e4
        · refine .inr ⟨g, cur, sz, p1, p2, p3, p4, p5, p6, fun b hb => p7 b (hβn b g hb).2, fun t' n' e' o' c' ht' hrow' ho' hc' => ?_⟩
          rw [hhp t' ht'] at hrow'
          rcases hlk t' with h0 | ⟨r1, r2, r3, _⟩
          · rw [h0] at hrow'; cases hrow'
          · rcases r1 with r1 | ⟨r1, _⟩ | ⟨_, _, r1, _⟩
            rotate_left
            · rw [r1] at hrow'; cases hrow'
            · rw [r1] at hrow'; cases hrow'
            rw [r1] at hrow'
            rw [hO t' r3] at ho'
            exact p8 t' n' e' o' c' ht' hrow' ho' hc'
    · have hl : ∀ b T e s', b ≠ 0 → (mkS s.n s.np l m hp).hp b = .bld T e s' → s.hp b = .bld T e s' ∧ b < m := fun b T e s' hb0 hb => by
        rw [hhp b hb0] at hb
        rcases hlk b with h0 | ⟨q1, _, q3, _⟩
        · rw [h0] at hb; cases hb
        · rcases q1 with q1 | ⟨q1, _⟩ | ⟨_, _, q1, _⟩
          · exact ⟨by rw [← q1]; exact hb, q3⟩
          · rw [q1] at hb; cases hb
          · rw [q1] at hb; cases hb
      refine h.h.o.bl.keep (fun b T e s' hb0 hb => (hl b T e s' hb0 hb).1) (fun b T e s' g hb0 hb hg => ⟨(hβ b (hl b T e s' hb0 hb).2).trans hg, rfl⟩) (fun k hk hp' => ⟨rfl, hp'.1, fun b hb => hp'.2.1 b (hβn b k hb).2, fun t n e o c ht hrow ho hc => ?_⟩)
      rw [hhp t ht] at hrow
      rcases hlk t with h0 | ⟨q1, _, q3, _⟩
      · rw [h0] at hrow; cases hrow
      · rcases q1 with q1 | ⟨q1, _⟩ | ⟨_, _, q1, _⟩
        · rw [q1] at hrow
          rw [hO t q3] at ho
          exact hp'.2.2 t n e o c ht hrow ho hc
        · rw [q1] at hrow; cases hrow
        · rw [q1] at hrow; cases hrow
  · show Rep (E.cut m) (l.getD t .top) _
    rcases slots_ok h1 t with h0 | h0
    · rw [h0]; exact .top _
    · by_cases hlt : t < l.length
      · have hb := List.all_eq_true.1 h3.1.2 l[t] (List.getElem_mem hlt)
        rw [Nat.zero_add] at h0
        have := h.t t
        rw [← h0] at this
        refine this.cut ?_
        rw [getD_eq hlt]
        exact hb
      · rw [show l.getD t .top = .top by simp [List.getD, hlt]]
        exact .top _
theorem least {p : Nat → Prop} (h : ∃ n, p n) : ∃ n, p n ∧ ∀ m, p m → n ≤ m := by
  obtain ⟨n, hn⟩ := h
  induction n using Nat.strongRecOn with
  | ind n ih =>
    by_cases hm : ∃ m, m < n ∧ p m
    · obtain ⟨m, h1, h2⟩ := hm
      exact ih m h1 h2
    · exact ⟨n, hn, fun m h => by
        rcases Nat.lt_or_ge m n with hlt | hge
        · exact absurd ⟨m, hlt, h⟩ hm
        · exact hge⟩
/-- A loop, by an invariant that tells how long it goes on at most. -/
theorem wp_loop_at {P : Program} {c : Code} {Q : Exit → Act → World → Prop} {a : Act} {w : World} (I : Nat → Act → World → Prop) (h0 : ∃ n, I n a w) (round : ∀ n a w, I n a w → c.wp P (Exit.then (fun a' w' => ∃ n', n' < n ∧ I n' a' w') Q) a w) : (Code.loop c).wp P Q a w := by
  classical
  refine wp_loop (fun a w => ∃ n, I n a w) (fun a w => if h : ∃ n, I n a w then Classical.choose (least h) else 0) h0 fun a w hI => ?_
  have h1 := Classical.choose_spec (least hI)
  simp only [dif_pos hI]
  generalize Classical.choose (least hI) = n at *
  refine wp_mono (round n a w h1.1) fun e a' w' hq => ?_
  cases e with
  | normal =>
    obtain ⟨n', hlt, hI'⟩ := hq
    have hex : ∃ n, I n a' w' := ⟨n', hI'⟩
    refine ⟨hex, ?_⟩
    simp only [dif_pos hex]
    have h2 := (Classical.choose_spec (least hex)).2 n' hI'
    omega
  | _ => exact hq
end
end Go.Proofs.YtddggjmfplohkaaDoor
/- What a function's body, run by the machine of plain values, says of its calls; no program is named here. -/
namespace Go.Proofs.YtddggjmfplohkaaDoor
open Go.RowKit
def PV.demR : PV → PV
  | .tup cs => .tup (cs.map PV.dem)
  | x => x.dem
theorem Rep.demR {E : Env} {p : PV} {x : Value} (r : Rep E p x) : Rep E p.demR x := by
  cases p with
  | tup cs =>
    cases r with
    | tup _ vs hl h =>
      refine .tup _ vs (by simpa using hl) fun i hi => ?_
      have hi' : i < cs.length := by simpa using hi
      have := (h i hi').dem
      rw [getD_eq hi'] at this
      rw [getD_eq hi]
      simpa using this
  | _ => exact r.dem
def resOne (C : Ctx) (s : St) (x : ResultVar) (K : PV → Prop) : Prop :=
  match x with
  | .tmp t => K (s.tm t)
  | .cell a ty => match s.tm a with
    | .ptr b off => match s.hp b with
      | .cells cs => b ≠ 0 ∧ vcPart C.P ty cs off K
      | _ => False
    | _ => False
def resAll (C : Ctx) (s : St) : List ResultVar → (List PV → Prop) → Prop
  | [], K => K []
  | x :: l, K => resOne C s x fun p => resAll C s l fun ps => K (p :: ps)
def one : List PV → PV
  | [p] => p
  | ps => .tup ps
def outsOk (s : St) : Nat → List HC → Prop
  | _, [] => True
  | b, o :: l => (match s.hp b, o with
    | .cells cs, .cells ds => cs.all PV.leaf = true ∧ cs.map PV.dem1 = ds
    | .mp es, .mp ds => es = ds
    | .bld T e x, .bld T' e' x' => T = T' ∧ e = e' ∧ x = x'
    | _, _ => False) ∧ outsOk s (b + 1) l
inductive EndOk (s : St) (p r : PV) (outs : List HC) : Prop
  | mk (h : p.demR = r) (ho : outsOk s 1 outs)
/-- At the end: the results, and the boxes that came in. -/
def vcEnd (C : Ctx) (fn : Func) (r : PV) (outs : List HC) (e : Exit) (s : St) : Prop :=
  match e with
  | .normal | .ret => resAll C s fn.results.toList (fun ps => EndOk s (one ps) r outs)
  | _ => False
def insHeap (ins : List HC) : Nat → List (Nat × HC)
  | k => match ins with
    | [] => []
    | c :: l => (k, c) :: insHeap l (k + 1)
def entry (fn : Func) (ars : List PV) (ins : List HC) : St := mkS (ars.length + (fn.ntmps - ars.length)) ins.length ars (ins.length + 1) (insHeap ins 1)
theorem look_ins (b : Nat) : ∀ (ins : List HC) (k : Nat), look (insHeap ins k) b = if k ≤ b ∧ b < k + ins.length then ins.getD (b - k) .none else .none
  | [], k => by rw [if_neg (by simp only [List.length_nil]; omega)]; rfl
  | c :: l, k => by
    unfold insHeap look
    by_cases h : b = k
    · subst h
      rw [if_pos (by simp only [List.length_cons]; omega)]
      simp [List.getD]
    · rw [nbeq_false h]
      simp only
      rw [look_ins b l (k + 1)]
      simp only [List.length_cons]
      by_cases hin : k + 1 ≤ b ∧ b < k + 1 + l.length
      · rw [if_pos hin, if_pos (by omega)]
        rw [show b - k = (b - (k + 1)) + 1 by omega]
        simp [List.getD]
      · rw [if_neg hin, if_neg (by omega)]
section
variable {C : Ctx} {w0 : World} {pb : Nat → Option Nat} {F0 : Nat → Nat → Prop} {Ds : List Deferred} {s : St} {a : Act} {E : Env}
def rdRes (tmps : Array Value) : ResultVar → Sem Value
  | .tmp t => pure (tmps.getD t undef)
  | .cell b t => do loadVar t (← asAddr (tmps.getD b undef))
theorem results_eq (fn : Func) (tmps : Array Value) : results fn tmps = (do let vs ← fn.results.mapM (rdRes tmps); pure (if h : vs.size = 1 then vs[0] else .tuple vs)) := by
  unfold results
  have e : (fun x : ResultVar => match x with
    | .tmp t => pure (tmps.getD t undef)
    | .cell b t => (do loadVar t (← asAddr (tmps.getD b undef)) : Sem Value)) = rdRes tmps := by
    funext x
    cases x <;> rfl
  exact congrArg (fun g => (do let vs ← fn.results.mapM g; pure (if h : vs.size = 1 then vs[0] else .tuple vs) : Sem Value)) e
theorem Rep.ptr_inv {b off : Nat} {x : Value} (r : Rep E (.ptr b off) x) : ∃ g, x = .pointer (some ⟨g, off, none⟩) ∧ E.β b = some g := by
  cases r with
  | ptr _ _ g hg => exact ⟨g, rfl, hg⟩
theorem resOne_sound (h : RelS C w0 pb F0 Ds s a E) {x : ResultVar} {K : PV → Prop} (hv : resOne C s x K) : ∃ p v, (rdRes a.tmps x).run C.P E.w = .ok v E.w ∧ Rep E p v ∧ K p := by
  cases x with
  | tmp t => exact ⟨_, _, rfl, h.t t, hv⟩
  | cell b ty =>
    unfold resOne at hv
    simp only at hv
    have hb := h.t b
    split at hv
    · rename_i i off hi
      rw [hi] at hb
      split at hv
      · rename_i cs hcs
        obtain ⟨p, h1, h2⟩ := vcPart_ex hv.2
        obtain ⟨g, T, vs, e1, e2, e3, e4⟩ := h.h.o.box i cs hv.1 hcs
        obtain ⟨g', hx, hg'⟩ := hb.ptr_inv
        rw [e1] at hg'
        injection hg' with hg'
        subst hg'
        obtain ⟨z, k1, k2⟩ := cells_of_part (P := C.P) (w := E.w) (g := g) (b0 := 0) (E := E) (val := fun i => vs.getD i undef) (fun i hi => by rw [Nat.zero_add]; exact e2.getD (Nat.lt_of_lt_of_le hi e3.1)) e3.2 h1
        rw [Nat.zero_add] at k1
        refine ⟨p, z, ?_, k2, h2⟩
        show (do loadVar ty (← asAddr (a.tmps.getD b undef)) : Sem Value).run C.P E.w = _
        rw [hx]
        simp only [Instr.loadAt, Instr.sureAddr] at k1
        exact k1
      · exact hv.elim
    · exact hv.elim
theorem resAll_sound (h : RelS C w0 pb F0 Ds s a E) : ∀ {l : List ResultVar} {K : List PV → Prop}, resAll C s l K → ∃ ps vs, (l.mapM (rdRes a.tmps)).run C.P E.w = .ok vs E.w ∧ ps.length = vs.length ∧ (∀ i, i < ps.length → Rep E (ps.getD i .top) (vs.getD i undef)) ∧ K ps
  | [], K, hv => ⟨[], [], rfl, rfl, fun i hi => by simp at hi, hv⟩
  | x :: l, K, hv => by
    obtain ⟨p, v, h1, h2, h3⟩ := resOne_sound h hv
    obtain ⟨ps, vs, k1, k2, k3, k4⟩ := resAll_sound h h3
    refine ⟨p :: ps, v :: vs, ?_, by simp [k2], fun i hi => ?_, k4⟩
    · rw [List.mapM_cons]
      simp only [Sem.run_bind, h1, Result.andThen_ok, k1, Sem.run_pure]
    · cases i with
      | zero => simpa [List.getD] using h2
      | succ i => have := k3 i (by simpa using hi); simpa [List.getD] using this
theorem results_sound (h : RelS C w0 pb F0 Ds s a E) {fn : Func} {K : List PV → Prop} (hv : resAll C s fn.results.toList K) : ∃ ps v, (results fn a.tmps).run C.P E.w = .ok v E.w ∧ Rep E (one ps) v ∧ K ps := by
  obtain ⟨ps, vs, h1, h2, h3, h4⟩ := resAll_sound h hv
  refine ⟨ps, if h : vs.toArray.size = 1 then vs.toArray[0] else .tuple vs.toArray, ?_, ?_, h4⟩
  · rw [results_eq, Array.mapM_eq_mapM_toList]
    simp only [Sem.run_bind, Sem.run_map, h1, Result.andThen_ok]
    rfl
  · match ps, vs, h2 with
    | [], [], _ => exact .tup [] #[] rfl fun i hi => by simp at hi
    | [p], [v], _ =>
      have := h3 0 (by simp)
      simpa [one, List.getD] using this
    | p :: q :: ps, v :: u :: vs, h2 =>
      rw [dif_neg (by simp)]
      refine .tup _ _ (by simpa using h2) fun i hi => ?_
      have := h3 i hi
      have hi' : i < (v :: u :: vs).length := by rw [← h2]; exact hi
      rw [getD_eq hi'] at this
      have e2 : (v :: u :: vs).toArray.getD i undef = (v :: u :: vs)[i] := by
        have : i < (v :: u :: vs).toArray.size := by simpa using hi'
        simp only [Array.getD, this, dite_true]
        simp
      rw [e2]; exact this
theorem outs_get {s : St} : ∀ {outs : List HC} {b : Nat}, outsOk s b outs → ∀ j, j < outs.length → (s.hp (b + j)).okIn = true ∧ (s.hp (b + j)).demI = outs.getD j .none
  | [], _, _, j, hj => by simp at hj
  | o :: l, b, h, j, hj => by
    obtain ⟨h1, h2⟩ := h
    cases j with
    | zero =>
      split at h1
      · rename_i cs ds hcs
        rw [Nat.add_zero, hcs]
        exact ⟨h1.1, by simp [HC.demI, List.getD, h1.2]⟩
      · rename_i es ds hes
        rw [Nat.add_zero, hes]
        exact ⟨rfl, by simp [HC.demI, List.getD, h1]⟩
      · rename_i T e x T' e' x' hes
        obtain ⟨rfl, rfl, rfl⟩ := h1
        rw [Nat.add_zero, hes]
        exact ⟨rfl, by simp [HC.demI, List.getD]⟩
      · exact h1.elim
    | succ j =>
      have := outs_get h2 j (by simpa using hj)
      rw [show b + (j + 1) = b + 1 + j by omega]
      simpa [List.getD] using this
/-- What a walk of a function's body says of its calls. -/
theorem spec_of_wp (hgpk : ∀ w w' : World, (∀ k, k < C.gs → w'.heap[k]? = w.heap[k]?) → C.GP w → C.GP w') {f : FuncId} {fn : Func} {c : Code} (hf : C.P.funcs[f]? = some fn) (hb : fn.body = some c)
    {ars : List PV} {ins : List HC} {r : PV} {outs : List HC} (hin : ∀ c ∈ ins, c.okIn = true) (hr : r.plain = true) (hol : outs.length = ins.length)
    (hv : ∀ (w0 : World) (pb : Nat → Option Nat) (F0 : Nat → Nat → Prop) (a : Act) (E : Env), RelS C w0 pb F0 [] (entry fn ars ins) a E → c.wp C.P (fun e a w => ∃ s E, E.w = w ∧ RelS C w0 pb F0 [] s a E ∧ vcEnd C fn r outs e s) a E.w) : SpecH C f ars ins r outs := by
  intro w F β vs hgp hgs hglob hargs hins hF hβF hβ hinj hbld
  refine calls_of_wp hf hb ?_
  obtain ⟨hid, hhid⟩ : ∃ hid : Option Nat, ∀ k, hid = some k ↔ BufIn ins w β k := by
    by_cases hex : ∃ k, BufIn ins w β k
    · obtain ⟨k, hk⟩ := hex
      refine ⟨some k, fun k' => ⟨fun e => by injection e with e; subst e; exact hk, fun hk' => ?_⟩⟩
      obtain ⟨j, T, e, s, g, v, q1, q2, q3, q4⟩ := hk
      obtain ⟨j', T', e', s', g', v', r1, r2, r3, r4⟩ := hk'
      have := hbld.2 j j' T e s T' e' s' q1 r1
      subst this
      rw [q2] at r2
      injection r2 with r2
      subst r2
      have := q3.v_eq r3
      subst this
      rw [← q4, ← r4]
    · exact ⟨none, fun k => ⟨fun e => (by cases e), fun hk => absurd ⟨k, hk⟩ hex⟩⟩
  let pb : Nat → Option Nat := fun b => if b = 0 then hid else β b
  have hpb0 : pb 0 = hid := if_pos rfl
  have hpbn : ∀ b, b ≠ 0 → pb b = β b := fun b hb => if_neg hb
  have hbuf : ∀ k, BufIn ins w β k → C.gs ≤ k ∧ k < w.heap.size := fun k hk => by
    obtain ⟨j, T, e, s, g, v, q1, q2, q3, q4⟩ := hk
    obtain ⟨g', v', r1, r2, r3⟩ := hbld.1 j T e s q1
    rw [q2] at r1
    injection r1 with r1
    subst r1
    have := q3.v_eq r2
    subst this
    exact ⟨(r3 k q4).1, q3.lt q4⟩
  let E : Env := ⟨w, F, β, fun _ => none⟩
  have hlen : ars.length = vs.size := hargs.1
  have hlk := fun b => look_ins b ins 1
  have hhp : ∀ b, b ≠ 0 → (entry fn ars ins).hp b = if 1 ≤ b ∧ b < 1 + ins.length then ins.getD (b - 1) .none else .none := fun b hb => by
    cases b with
    | zero => exact absurd rfl hb
    | succ b => exact hlk (b + 1)
  have hrel : RelS C w pb F [] (entry fn ars ins) { tmps := vs ++ Array.replicate (fn.ntmps - vs.size) undef, defers := [] } E := by
    refine ⟨⟨⟨hgp, hgpk, rfl, rfl, rfl, Nat.le_refl _, fun _ _ _ => rfl, hgs, hglob, fun g i hf => ⟨hF g i hf, fun _ => hf⟩, fun _ _ h => h, fun g hg => ?_, fun b g h0 hb => (hpbn b h0).symm.trans hb⟩, ?_⟩, rfl, ?_, fun b g hb => ?_, fun t => ?_⟩
    · obtain ⟨b, hb⟩ := hg
      by_cases h0 : b = 0
      · subst h0
        rw [hpb0] at hb
        exact hbuf g ((hhid g).1 hb)
      · rw [hpbn b h0] at hb
        exact (hβ b g hb).2.2
    · refine ⟨⟨ins.length + 1, rfl, by omega, fun b hb => ⟨?_, rfl, ?_⟩⟩, fun b hb => ?_, fun b g hb => ?_, hinj, fun t n e ht hrow => ?_, ?_⟩
      · cases hq : β b with
        | none => exact hq
        | some g => have := (hβ b g hq).2.1; omega
      · rw [hhp b (by omega), if_neg (by omega)]
      · rw [hhp b hb]
        by_cases hin' : 1 ≤ b ∧ b < 1 + ins.length
        · rw [if_pos hin']
          have := hins (b - 1) (by omega)
          rw [show b - 1 + 1 = b by omega] at this
          exact this
        · rw [if_neg hin']; trivial
      · have := hβ b g hb
        have h0 : b ≠ 0 := by omega
        exact ⟨h0, this.2.2.2, .inr ⟨b, h0, (hpbn b h0).trans hb⟩⟩
      · rw [hhp t ht] at hrow
        by_cases hin' : 1 ≤ t ∧ t < 1 + ins.length
        · rw [if_pos hin'] at hrow
          have hm := hin (ins.getD (t - 1) .none) (by rw [getD_eq (show t - 1 < ins.length by omega)]; exact List.getElem_mem _)
          rw [hrow] at hm; cases hm
        · rw [if_neg hin'] at hrow; cases hrow
      · have hin2 : ∀ b T e s, b ≠ 0 → (entry fn ars ins).hp b = .bld T e s → ins.getD (b - 1) .none = .bld T e s := fun b T e s h0 hb => by
          rw [hhp b h0] at hb
          by_cases hin' : 1 ≤ b ∧ b < 1 + ins.length
          · rw [if_pos hin'] at hb; exact hb
          · rw [if_neg hin'] at hb; cases hb
        refine ⟨fun b T e s h0 hb => ?_, fun b b' T e s T' e' s' h0 h0' hb hb' => ?_⟩
        · obtain ⟨g, v, r1, r2, r3⟩ := hbld.1 (b - 1) T e s (hin2 b T e s h0 hb)
          rw [show b - 1 + 1 = b by omega] at r1
          refine ⟨g, v, r1, r2, fun k hk => ⟨.inr (hpb0.trans ((hhid k).2 ⟨b - 1, T, e, s, g, v, hin2 b T e s h0 hb, by rw [show b - 1 + 1 = b by omega]; exact r1, r2, hk⟩)), (r3 k hk).2.1, (r3 k hk).2.2, fun t n e' o c ht hr ho hc => by cases ho⟩⟩
        · have := hbld.2 (b - 1) (b' - 1) T e s T' e' s' (hin2 b T e s h0 hb) (hin2 b' T' e' s' h0' hb')
          omega
    · show (vs ++ Array.replicate (fn.ntmps - vs.size) undef).size = ars.length + (fn.ntmps - ars.length)
      simp [hlen]
    · by_cases h0 : b = 0
      · subst h0; exact Nat.zero_le _
      · rw [hpbn b h0] at hb
        exact (hβ b g hb).2.1
    · show Rep E (ars.getD t .top) _
      by_cases ht : t < ars.length
      · have := hargs.2 t ht
        have ht' : t < vs.size := by omega
        have e : (vs ++ Array.replicate (fn.ntmps - vs.size) undef).getD t undef = vs.getD t undef := by
          simp only [Array.getD_eq_getD_getElem?]
          rw [Array.getElem?_append_left ht']
        rw [e]; exact this
      · rw [show ars.getD t .top = .top by simp [List.getD, ht]]
        exact .top _
  refine wp_mono (hv w pb F _ E hrel) fun e a' w' hq => ?_
  obtain ⟨s', E', rfl, h', hq⟩ := hq
  have fin : resAll C s' fn.results.toList (fun ps => EndOk s' (one ps) r outs) → a'.defers = [] ∧ ∃ v, (results fn a'.tmps).run C.P E'.w = .ok v E'.w ∧ ∃ x F', Ending.returned v = .returned x ∧ E'.w.os = w.os ∧ E'.w.tape = w.tape ∧ E'.w.output = w.output ∧ w.heap.size ≤ E'.w.heap.size ∧
      (∀ k, k < w.heap.size → (∀ b, β b ≠ some k) → ¬ BufIn ins w β k → E'.w.heap[k]? = w.heap[k]?) ∧ (∀ g i, F g i → F' g i) ∧ (∀ g i, F' g i → F g i ∨ (w.heap.size ≤ g ∧ g < E'.w.heap.size)) ∧
      r.plain = true ∧ Rep ⟨E'.w, F', β, fun _ => none⟩ r x ∧ outs.length = ins.length ∧ BoxesAt ⟨E'.w, F', β, fun _ => none⟩ outs ∧ BldOut ins outs w E'.w F' β := fun hq => by
    obtain ⟨ps, v, h1, h2, ⟨h3, h4⟩⟩ := results_sound h' hq
    have hinn : E'.inn.le ⟨E'.w, E'.F, β, fun _ => none⟩ := ⟨fun _ _ h => h, fun _ _ _ => rfl, fun _ _ h => (by cases h), fun _ _ _ h => (by cases h)⟩
    refine ⟨h'.d, v, h1, v, E'.F, rfl, h'.h.b.os, h'.h.b.tape, h'.h.b.output, h'.h.b.size, fun k hk hnb hnf => h'.h.b.old k hk (fun ⟨b, hb⟩ => ?_), h'.h.b.Fsub, fun g i hf => ?_, hr, ?_, hol, fun j hj => ?_, fun j T e s hj => ?_⟩
    · by_cases h0 : b = 0
      · subst h0
        rw [hpb0] at hb
        exact hnf ((hhid k).1 hb)
      · rw [hpbn b h0] at hb
        exact hnb b hb
    · rcases Nat.lt_or_ge g w.heap.size with hlt | hge
      · exact .inl ((h'.h.b.Fin g i hf).2 hlt)
      · exact .inr ⟨hge, (h'.h.b.Fin g i hf).1⟩
    · have := h2.demR
      rw [h3] at this
      exact (this.inn_plain hr).le hinn
    · obtain ⟨k2, k3⟩ := outs_get h4 j hj
      have hat := h'.h.o.at_ (1 + j) (by omega)
      obtain ⟨g, g1, _⟩ := hat.okIn k2
      have hb0 : ∃ g0, β (j + 1) = some g0 := by
        have hj' : j < ins.length := by omega
        obtain ⟨g0, q1, _⟩ := HAt.okIn (hins j hj') (hin _ (by rw [getD_eq hj']; exact List.getElem_mem hj'))
        exact ⟨g0, q1⟩
      obtain ⟨g0, q1⟩ := hb0
      have q2 := h'.h.b.kp (j + 1) g0 (by omega) ((hpbn _ (by omega)).trans q1)
      have hβj : β (j + 1) = E'.β (1 + j) := by rw [q1, ← q2, show j + 1 = 1 + j by omega]
      show HAt _ (j + 1) _
      rw [← k3]
      generalize s'.hp (1 + j) = c at *
      cases c with
      | cells cs =>
        obtain ⟨g, T, us, e1, e2, e3, e4, e5⟩ := hat
        have hall := List.all_eq_true.1 k2
        refine ⟨g, T, us, hβj.trans e1, e2, ⟨by simpa using e3.1, fun i hi => ?_⟩, fun i hi => e4 i (by simpa using hi), e5⟩
        have hi' : i < cs.length := by simpa using hi
        have := e3.2 i hi'
        rw [getD_eq hi'] at this
        rw [getD_eq hi, List.getElem_map]
        exact (this.inn_leaf (hall _ (List.getElem_mem hi'))).le hinn
      | mp es =>
        obtain ⟨g, ents, ck, e1, e2, e3, e4⟩ := hat
        exact ⟨g, ents, ck, hβj.trans e1, e2, e3, e4⟩
      | bld T e s =>
        obtain ⟨g, e1, e2⟩ := hat
        exact ⟨g, hβj.trans e1, e2⟩
      | _ => cases k2
    · have hjo : j < outs.length := by
        rcases Nat.lt_or_ge j outs.length with hlt | hge
        · exact hlt
        · rw [show outs.getD j .none = .none by simp [List.getD, hge]] at hj; cases hj
      obtain ⟨k2, k3⟩ := outs_get h4 j hjo
      have hsb : s'.hp (1 + j) = .bld T e s := by
        rw [hj] at k3
        generalize s'.hp (1 + j) = c at *
        cases c <;> simp [HC.demI] at k3
        simp [k3]
      obtain ⟨g, v, r1, r2, r3⟩ := h'.h.o.bl.at_ (1 + j) T e s (by omega) hsb
      have hb0 : ∃ g0, β (j + 1) = some g0 := by
        have hj' : j < ins.length := by omega
        obtain ⟨g0, q1, _⟩ := HAt.okIn (hins j hj') (hin _ (by rw [getD_eq hj']; exact List.getElem_mem hj'))
        exact ⟨g0, q1⟩
      obtain ⟨g0, q1⟩ := hb0
      have q2 := h'.h.b.kp (j + 1) g0 (by omega) ((hpbn _ (by omega)).trans q1)
      rw [show 1 + j = j + 1 by omega, q2] at r1
      injection r1 with r1
      subst r1
      refine ⟨g0, v, q1, r2, fun k hk => ⟨?_, (r3 k hk).2.1, fun b hb => ?_⟩⟩
      · rcases (r3 k hk).1 with h5 | h5
        · exact .inl h5
        · rw [hpb0] at h5; exact .inr ((hhid k).1 h5)
      · have h0 : b ≠ 0 := by have := (hβ b k hb).1; omega
        exact (r3 k hk).2.2.1 b (h'.h.b.kp b k h0 ((hpbn b h0).trans hb))
  cases e with
  | normal => exact fin hq
  | ret => exact fin hq
  | _ => exact hq.elim
end
end Go.Proofs.YtddggjmfplohkaaDoor
/- The machine of plain values on states that are written out: each step leaves a state that is written out; no program is named here. -/
namespace Go.Proofs.YtddggjmfplohkaaDoor
open Go.RowKit
def setL : List PV → Nat → PV → (List PV → Prop) → Prop
  | [], _, _, K => K []
  | _ :: l, 0, v, K => K (v :: l)
  | x :: l, n + 1, v, K => setL l n v fun l' => K (x :: l')
def putL (σ : List PV) (d : Option Tmp) (v : PV) (K : List PV → Prop) : Prop :=
  match d with
  | none => K σ
  | some d => setL σ d v K
def insL : List (Nat × HC) → Nat → HC → (List (Nat × HC) → Prop) → Prop
  | [], k, c, K => K [(k, c)]
  | (i, x) :: l, k, c, K => match Nat.beq i k with
    | true => K ((k, c) :: l)
    | false => insL l k c fun l' => K ((i, x) :: l')
def wrL (m : Nat) (h : List (Nat × HC)) : List (Nat × HC) → (Nat → List (Nat × HC) → Prop) → Prop
  | [], K => K m h
  | (k, c) :: l, K => match Nat.beq k 0 with
    | true => match c with
      | .num m' => wrL m' h l K
      | _ => False
    | false => insL h k c fun h' => wrL m h' l K
/-- A state that is written out: its slots, the next number, the numbers. -/
abbrev XK := List PV → Nat → List (Nat × HC) → Prop
def vcRunL (C : Ctx) (ops : Array Oper) (n np : Nat) : List Oper → List PV → Nat → List (Nat × HC) → List FP → (List PV → Nat → List (Nat × HC) → List FP → Prop) → Prop
  | [], σ, m, h, tr, K => K σ m h tr
  | o :: l, σ, m, h, tr, K => vcGuard ops (mkS n np σ m h) o
      (vcOp C np (C.ev (mkS n np σ m h)) o.op (mkS n np σ m h).hp fun e => e.v.force fun v => putL σ o.dst v fun σ' => wrL m h e.wr fun m' h' => vcRunL C ops n np l σ' m' h' (e.fp :: tr) K)
      (putL σ o.dst (.v undef) fun σ' => vcRunL C ops n np l σ' m h (([], []) :: tr) K)
/-- What is called, with what: a function by its name, or a literal with what it captured. -/
def calleeI (C : Ctx) (ρ : Operand → PV) (op : Op) (f : FuncId) (args : List PV) : Prop :=
  match op with
  | .call c => match c.callee with
    | .value (.func g) => callOk C.P g = true ∧ f = g ∧ args = c.args.toList.map ρ
    | .value x => match ρ x with
      | .clo g caps => callOk C.P g = true ∧ f = g ∧ args = c.args.toList.map ρ ++ caps
      | _ => False
    | _ => False
  | _ => False
/-- A call that is walked where it stands: in a state of the caller's boxes it ends in one of these. -/
def SpecI (C : Ctx) (f : FuncId) (args : List PV) (m : Nat) (h : List (Nat × HC)) (R : PV → Nat → List (Nat × HC) → Prop) : Prop :=
  ∀ (w0 : World) (pb : Nat → Option Nat) (F0 : Nat → Nat → Prop) (E : Env) (vs : Array Value), HR C w0 pb F0 (mkS 0 0 [] m h).hp E → RepC E args vs → (∀ b g, pb b = some g → b < m) →
    Calls C.P f vs E.w fun e w' => ∃ z p m' h' E', e = .returned z ∧ E'.w = w' ∧ HR C w0 pb F0 (mkS 0 0 [] m' h').hp E' ∧ Rep E' p z ∧ (E.cut m).le E' ∧ R p m' h'
inductive vcOpI (C : Ctx) (n np : Nat) (o : Oper) (σ : List PV) (m : Nat) (h : List (Nat × HC)) (K : List PV → Nat → List (Nat × HC) → Prop) : Prop
  | op (hv : vcOp C np (C.ev (mkS n np σ m h)) o.op (mkS n np σ m h).hp fun e => e.v.force fun v => putL σ o.dst v fun σ' => wrL m h e.wr fun m' h' => K σ' m' h') : vcOpI C n np o σ m h K
  | inl (f : FuncId) (args : List PV) (R : PV → Nat → List (Nat × HC) → Prop) (hc : calleeI C (C.ev (mkS n np σ m h)) o.op f args) (hb : σ.all (PV.bnd m) = true) (hnp : Nat.blt np m = true) (hs : SpecI C f args m h R)
      (hk : ∀ p m' h', R p m' h' → putL σ o.dst p fun σ' => K σ' m' h') : vcOpI C n np o σ m h K
/-- Operations in the text's order, some of them calls that are walked where they stand. -/
def vcRunI (C : Ctx) (ops : Array Oper) (n np : Nat) : List Oper → List PV → Nat → List (Nat × HC) → XK → Prop
  | [], σ, m, h, K => K σ m h
  | o :: l, σ, m, h, K => vcGuard ops (mkS n np σ m h) o (vcOpI C n np o σ m h fun σ' m' h' => vcRunI C ops n np l σ' m' h' K) (putL σ o.dst (.v undef) fun σ' => vcRunI C ops n np l σ' m h K)
inductive vcLoopL (n np : Nat) (body : (Exit → XK) → XK) (Q : Exit → XK) (σ : List PV) (m : Nat) (h : List (Nat × HC)) : Prop
  | mk (I : Inv) (h0 : ∃ k l m' h', l.length = n ∧ Sub (mkS n np σ m h) l m' h' ∧ I k l m' h') (h1 : ∀ k l m h, l.length = n → I k l m h → body (fun e σ' m' h' => match e with
    | .normal => ∃ k' l' m'' h'', k' < k ∧ l'.length = n ∧ Sub (mkS n np σ' m' h') l' m'' h'' ∧ I k' l' m'' h''
    | e => Q e σ' m' h') l m h) : vcLoopL n np body Q σ m h
/-- One behind the other; or with a saying between them of what is left. -/
inductive vcSeqL (n np : Nat) (bx : (Exit → XK) → XK) (by_ : XK) (Q : Exit → XK) (σ : List PV) (m : Nat) (h : List (Nat × HC)) : Prop
  | go (hv : bx (fun e σ' m' h' => match e with
    | .normal => by_ σ' m' h'
    | e => Q e σ' m' h') σ m h) : vcSeqL n np bx by_ Q σ m h
  | cut (I : XK) (h1 : bx (fun e σ' m' h' => match e with
    | .normal => ∃ l m'' h'', l.length = n ∧ Sub (mkS n np σ' m' h') l m'' h'' ∧ I l m'' h''
    | e => Q e σ' m' h') σ m h) (h2 : ∀ l m h, l.length = n → I l m h → by_ l m h) : vcSeqL n np bx by_ Q σ m h
/-- Where an operation throws: whatever the slots hold. -/
def dieK (C : Ctx) (n np : Nat) (od : Oper) (draw : Bool) (P : Value → XK) : List PV → Nat → List (Nat × HC) → List FP → Prop := fun σ m h tr =>
  (draw = true → (tr.all fun f => f.2.isEmpty) = true) ∧ dieOp C (C.ev (mkS n np σ m h)) od.op (mkS n np σ m h).hp fun x wr => wrL m h wr fun m' h' => ∀ σ' : List PV, σ'.length = n ∧ (draw = false → σ' = σ) → P x σ' m' h'
/-- A region that ends by a panic of one operation; where it draws, all that stands behind comes behind that operation. -/
inductive vcDieL (C : Ctx) (n np : Nat) (ops : Array Oper) (draw : Bool) (P : Value → XK) (σ : List PV) (m : Nat) (h : List (Nat × HC)) : Prop
  | mk (l1 : List Oper) (od : Oper) (l2 : List Oper) (h1 : ops.toList = l1 ++ od :: l2) (h2 : od.guard = none) (h3 : draw = true → drawOk ops = true ∧ ((List.range l2.length).all fun k => aft (Region.before ops) (l1.length + 1 + k) l1.length) = true)
      (hv : vcRunL C ops n np l1 σ m h [] fun σ' m' h' tr => dieK C n np od draw P σ' m' h' (tr.reverse)) : vcDieL C n np ops draw P σ m h
def vcCL (C : Ctx) (n np : Nat) : Code → (Exit → XK) → XK
  | .skip, Q, σ, m, h => Q .normal σ m h
  | .label _, Q, σ, m, h => Q .normal σ m h
  | .region _ ops draw, Q, σ, m, h => match draw with
    | false => vcRunL C ops n np ops.toList σ m h [] (fun σ' m' h' _ => Q .normal σ' m' h') ∨ (vcRunI C ops n np ops.toList σ m h fun σ' m' h' => Q .normal σ' m' h') ∨ vcDieL C n np ops false (fun x => Q (.panic [{ v := x, recovered := false }])) σ m h
    | true => (drawOk ops = true ∧ vcRunL C ops n np ops.toList σ m h [] fun σ' m' h' tr => traceOk ops tr.reverse = true ∧ Q .normal σ' m' h') ∨ vcDieL C n np ops true (fun x => Q (.panic [{ v := x, recovered := false }])) σ m h
  | .scope c, Q, σ, m, h => vcCL C n np c (fun e σ' m' h' => match e with
    | .goto _ => False
    | e => Q e σ' m' h') σ m h
  | .seq x y, Q, σ, m, h => vcSeqL n np (vcCL C n np x) (vcCL C n np y Q) Q σ m h
  | .cond c x y, Q, σ, m, h => match C.ev (mkS n np σ m h) c with
    | .v (.bool b) => bsplit b (vcCL C n np x Q σ m h) (vcCL C n np y Q σ m h)
    | _ => False
  | .block id c, Q, σ, m, h => vcCL C n np c (fun e σ' m' h' => match e with
    | .exit id' => match Nat.beq id' id with
      | true => Q .normal σ' m' h'
      | false => Q (.exit id') σ' m' h'
    | e => Q e σ' m' h') σ m h
  | .loop c, Q, σ, m, h => vcLoopL n np (vcCL C n np c) Q σ m h
  | .exit id, Q, σ, m, h => Q (.exit id) σ m h
  | .ret, Q, σ, m, h => Q .ret σ m h
  | _, _, _, _, _ => False
theorem setL_spec : ∀ (l : List PV) (n : Nat) (v : PV) (K : List PV → Prop), setL l n v K → K (l.set n v)
  | [], _, _, _, h => h
  | _ :: _, 0, _, _, h => h
  | x :: l, n + 1, v, K, h => setL_spec l n v (fun l' => K (x :: l')) h
theorem insL_spec : ∀ (l : List (Nat × HC)) (k : Nat) (c : HC) (K : List (Nat × HC) → Prop), insL l k c K → ∃ l', K l' ∧ ∀ b, look l' b = if b = k then c else look l b
  | [], k, c, K, h => ⟨_, h, fun b => by
      unfold look
      by_cases e : b = k
      · subst e; simp
      · rw [nbeq_false e, if_neg e]; rfl⟩
  | (i, x) :: l, k, c, K, h => by
    unfold insL at h
    split at h
    · rename_i e
      have e := Nat.eq_of_beq_eq_true e
      subst e
      refine ⟨_, h, fun b => ?_⟩
      unfold look
      by_cases e : b = i
      · subst e; simp
      · rw [nbeq_false e, if_neg e]
    · rename_i hne
      obtain ⟨l', h1, h2⟩ := insL_spec l k c _ h
      refine ⟨_, h1, fun b => ?_⟩
      unfold look
      by_cases e : b = i
      · subst e
        have : b ≠ k := fun e => by rw [e, Nat.beq_refl] at hne; cases hne
        simp [this]
      · rw [nbeq_false e]
        exact h2 b
theorem mkS_hp (n np : Nat) (l : List PV) (m : Nat) (h : List (Nat × HC)) (b : Nat) : (mkS n np l m h).hp b = if b = 0 then .num m else look h b := by
  cases b with
  | zero => rfl
  | succ b => rw [if_neg (by omega)]; rfl
theorem wrL_spec (n np : Nat) (σ : List PV) : ∀ (wr : List (Nat × HC)) (m : Nat) (h : List (Nat × HC)) (K : Nat → List (Nat × HC) → Prop), wrL m h wr K → ∃ m' h', K m' h' ∧ applyW (mkS n np σ m h).hp wr = (mkS n np σ m' h').hp
  | [], m, h, K, hk => ⟨m, h, hk, rfl⟩
  | (k, c) :: l, m, h, K, hk => by
    unfold wrL at hk
    split at hk
    · rename_i e
      have e := Nat.eq_of_beq_eq_true e
      subst e
      split at hk
      · rename_i m'
        obtain ⟨m2, h2, q1, q2⟩ := wrL_spec n np σ l m' h K hk
        refine ⟨m2, h2, q1, ?_⟩
        rw [← q2]
        simp only [applyW]
        congr 1
        funext b
        rw [mkS_hp]
        by_cases hb : b = 0
        · subst hb; rw [upd_same, if_pos rfl]
        · rw [upd_ne _ _ hb, mkS_hp, if_neg hb, if_neg hb]
      · exact hk.elim
    · rename_i hne
      have hk0 : k ≠ 0 := fun e => by rw [e] at hne; cases hne
      obtain ⟨h', q1, q2⟩ := insL_spec h k c _ hk
      obtain ⟨m2, h2, q3, q4⟩ := wrL_spec n np σ l m h' K q1
      refine ⟨m2, h2, q3, ?_⟩
      rw [← q4]
      simp only [applyW]
      congr 1
      funext b
      rw [mkS_hp]
      by_cases hb : b = 0
      · subst hb; rw [upd_ne _ _ (fun e => hk0 e.symm), mkS_hp, if_pos rfl, if_pos rfl]
      · rw [if_neg hb, q2 b]
        by_cases hbk : b = k
        · subst hbk; rw [upd_same, if_pos rfl]
        · rw [upd_ne _ _ hbk, if_neg hbk, mkS_hp, if_neg hb]
theorem mkS_put {n np : Nat} {σ : List PV} (hl : σ.length = n) (m : Nat) (h : List (Nat × HC)) (d : Option Tmp) (v : PV) (K : List PV → Prop) (hk : putL σ d v K) : ∃ σ', K σ' ∧ σ'.length = n ∧ (mkS n np σ m h).put d v = mkS n np σ' m h := by
  cases d with
  | none => exact ⟨σ, hk, hl, rfl⟩
  | some d =>
    refine ⟨σ.set d v, setL_spec σ d v K hk, by simpa using hl, ?_⟩
    have ext : ∀ x y : St, x.n = y.n → x.np = y.np → x.tm = y.tm → x.hp = y.hp → x = y := by rintro ⟨_, _, _, _⟩ ⟨_, _, _, _⟩ rfl rfl rfl rfl; rfl
    refine ext _ _ (St.put_n _ _ _) (St.put_np _ _ _) ?_ (St.put_hp _ _ _)
    funext t
    rw [St.put_tm]
    show _ = (σ.set d v).getD t .top
    have e0 : (mkS n np σ m h).tm t = σ.getD t .top := rfl
    have e1 : (mkS n np σ m h).n = n := rfl
    rw [e0, e1]
    by_cases ht : d = t
    · subst ht
      by_cases hlt : d < n
      · rw [if_pos ⟨rfl, hlt⟩]
        have : d < σ.length := by rw [hl]; exact hlt
        simp [List.getD, this]
      · rw [if_neg (fun h => hlt h.2), List.set_eq_of_length_le (by rw [hl]; exact Nat.le_of_not_lt hlt)]
    · rw [if_neg (fun h => ht (by simpa using h.1))]
      simp only [List.getD]
      rw [List.getElem?_set_ne ht]
theorem run_of_vcL {C : Ctx} {ops : Array Oper} {n np : Nat} {K : List PV → Nat → List (Nat × HC) → List FP → Prop} : ∀ (l : List Oper) (k : Nat) (σ : List PV) (m : Nat) (h : List (Nat × HC)) (tr : List FP), σ.length = n → (∀ j x, l[j]? = some x → ops[k + j]? = some x) → vcRunL C ops n np l σ m h tr K →
    ∃ tr' σ' m' h', RunR C ops (List.range' k l.length) (mkS n np σ m h) tr' (mkS n np σ' m' h') ∧ σ'.length = n ∧ K σ' m' h' ((tr'.map (·.2)).reverse ++ tr)
  | [], k, σ, m, h, tr, hl, _, hv => ⟨[], σ, m, h, .nil _, hl, hv⟩
  | o :: l, k, σ, m, h, tr, hl, hops, hv => by
    have h0 : ops[k]? = some o := by simpa using hops 0 o rfl
    have hl' : ∀ j x, l[j]? = some x → ops[k + 1 + j]? = some x := fun j x hx => by have := hops (j + 1) x (by simpa using hx); simpa [Nat.add_assoc, Nat.add_comm 1 j] using this
    rcases vcGuard_ex hv with ⟨hw, hv⟩ | ⟨hw, hv⟩
    · obtain ⟨e, h1, h2⟩ := vcOp_ex hv
      rw [force_eq] at h2
      obtain ⟨σ', h3, h4, h5⟩ := mkS_put hl m h o.dst e.v _ h2
      obtain ⟨m', hh', h6, h7⟩ := wrL_spec n np σ' e.wr m h _ h3
      have hst : (mkS n np σ m h).step o e = mkS n np σ' m' hh' := by
        unfold St.step
        rw [h5]
        have ext : ∀ x y : St, x.n = y.n → x.np = y.np → x.tm = y.tm → x.hp = y.hp → x = y := by rintro ⟨_, _, _, _⟩ ⟨_, _, _, _⟩ rfl rfl rfl rfl; rfl
        exact ext _ _ rfl rfl rfl h7
      obtain ⟨tr', σ2, m2, h2', r1, r2, r3⟩ := run_of_vcL l (k + 1) σ' m' hh' _ h4 hl' h6
      rw [← hst] at r1
      refine ⟨_, σ2, m2, h2', .cons k _ _ _ o e tr' h0 (.inr ⟨hw, h1⟩) r1, r2, ?_⟩
      simpa using r3
    · obtain ⟨σ', h3, h4, h5⟩ := mkS_put hl m h o.dst (.v undef) _ hv
      obtain ⟨tr', σ2, m2, h2', r1, r2, r3⟩ := run_of_vcL l (k + 1) σ' m h _ h4 hl' h3
      rw [← h5, ← step_eff0] at r1
      refine ⟨_, σ2, m2, h2', .cons k _ _ _ o eff0 tr' h0 (.inl ⟨hw, rfl⟩) r1, r2, ?_⟩
      simpa [eff0, Eff.fp] using r3
section
variable {C : Ctx} {w0 : World} {pb : Nat → Option Nat} {F0 : Nat → Nat → Prop} {Ds : List Deferred}
def QL (C : Ctx) (w0 : World) (pb : Nat → Option Nat) (F0 : Nat → Nat → Prop) (Ds : List Deferred) (E0 : Env) (n np : Nat) (Q : Exit → XK) (e : Exit) (a : Act) (w : World) : Prop :=
  ∃ σ m h E, E.w = w ∧ σ.length = n ∧ RelS C w0 pb F0 Ds (mkS n np σ m h) a E ∧ (E0.cut (np + 1)).le E ∧ Q e σ m h
theorem regionL_seq {ops : Array Oper} {n np : Nat} {σ : List PV} {m : Nat} {h : List (Nat × HC)} {a : Act} {E : Env} {id : Nat} {Q : Exit → XK} {E0 : Env} (hl : σ.length = n) (hr : RelS C w0 pb F0 Ds (mkS n np σ m h) a E) (hle0 : (E0.cut (np + 1)).le E) (hv : vcRunL C ops n np ops.toList σ m h [] fun σ' m' h' _ => Q .normal σ' m' h') :
    (Code.region id ops false).wp C.P (QL C w0 pb F0 Ds E0 n np Q) a E.w := by
  refine wp_region ?_
  obtain ⟨tr, σ', m', h', r, hl', hk⟩ := run_of_vcL ops.toList 0 σ m h [] hl (fun j x hx => by simpa using hx) hv
  have hrange : List.range' 0 ops.toList.length = List.range ops.size := by rw [List.range_eq_range']; simp
  rw [hrange] at r
  exact seq_sound r hr fun a' E' h2 hle => ⟨σ', m', h', E', rfl, hl', h2, hle0.trans hle, hk⟩
theorem regionL_draw {ops : Array Oper} {n np : Nat} {σ : List PV} {m : Nat} {h : List (Nat × HC)} {a : Act} {E : Env} {id : Nat} {Q : Exit → XK} {E0 : Env} (hm : C.P.follows .mixedOrders = true) (hst : drawOk ops = true) (hl : σ.length = n) (hr : RelS C w0 pb F0 Ds (mkS n np σ m h) a E) (hle0 : (E0.cut (np + 1)).le E)
    (hv : vcRunL C ops n np ops.toList σ m h [] fun σ' m' h' tr => traceOk ops tr.reverse = true ∧ Q .normal σ' m' h') : (Code.region id ops true).wp C.P (QL C w0 pb F0 Ds E0 n np Q) a E.w := by
  refine wp_region_any hm ?_
  obtain ⟨tr, σ', m', h', r, hl', hk⟩ := run_of_vcL ops.toList 0 σ m h [] hl (fun j x hx => by simpa using hx) hv
  obtain ⟨hR, hle⟩ := hr.h.drew
  have hr' : RelS C w0 pb F0 Ds (mkS n np σ m h) a ⟨E.w.drew, E.F, E.β, E.O⟩ := ⟨hR, hr.d, hr.n, hr.np, fun t => (hr.t t).le hle⟩
  simp only [drawOk, Bool.and_eq_true] at hst
  have hrange : List.range' 0 ops.toList.length = List.range ops.size := by rw [List.range_eq_range']; simp
  rw [hrange] at r
  simp only [List.append_nil, List.reverse_reverse] at hk
  refine any_sound hst.1 hst.2 ops.size (List.range ops.size) _ _ tr _ a _ (by simp) (List.pairwise_lt_range) (fun i => ?_) (by simp) (fun j oj _ hl => by rw [getD_replicate_false] at hl; cases hl) r (traceOk_spec (run_idx r) hk.1) hr' (fun a' E' h2 hle2 => ⟨σ', m', h', E', rfl, hl', h2, hle0.trans (hle.trans hle2), hk.2⟩)
  rw [getD_replicate_false]
  simp
/-- A region that ends by a panic. -/
theorem regionL_die {ops : Array Oper} {n np : Nat} {σ : List PV} {m : Nat} {h : List (Nat × HC)} {a : Act} {E : Env} {id : Nat} {Q : Exit → XK} {E0 : Env} {draw : Bool} (hm : C.P.follows .mixedOrders = true) (hl : σ.length = n) (hr : RelS C w0 pb F0 Ds (mkS n np σ m h) a E) (hle0 : (E0.cut (np + 1)).le E)
    (hv : vcDieL C n np ops draw (fun x => Q (.panic [{ v := x, recovered := false }])) σ m h) : (Code.region id ops draw).wp C.P (QL C w0 pb F0 Ds E0 n np Q) a E.w := by
  obtain ⟨l1, od, l2, h1, h2, h3, hv⟩ := hv
  have hsz : ops.size = l1.length + 1 + l2.length := by
    have := congrArg List.length h1
    simp at this
    omega
  have hat : ∀ j, ops[j]? = (l1 ++ od :: l2)[j]? := fun j => by rw [← h1, Array.getElem?_toList]
  have hd : ops[l1.length]? = some od := by rw [hat, List.getElem?_append_right (Nat.le_refl _), Nat.sub_self]; rfl
  obtain ⟨tr, σ', m', h', r, hl', hk1, hk2⟩ := run_of_vcL l1 0 σ m h [] hl (fun j x hx => by
    rw [Nat.zero_add, hat]
    have hj : j < l1.length := by
      rcases Nat.lt_or_ge j l1.length with hlt | hge
      · exact hlt
      · rw [List.getElem?_eq_none hge] at hx; cases hx
    rw [List.getElem?_append_left hj]; exact hx) hv
  have fin : ∀ (s2 : St) (a2 : Act) (E2 E3 : Env) (x : Value) (wr : List (Nat × HC)), s2.n = n → s2.np = np → s2.hp = (mkS n np σ' m' h').hp → RelS C w0 pb F0 Ds s2 a2 E2 → E.le E2 → (wrL m' h' wr fun m'' h'' => ∀ σ'' : List PV, σ''.length = n ∧ (true = false → σ'' = σ') → Q (.panic [{ v := x, recovered := false }]) σ'' m'' h'') → HR C w0 pb F0 (applyW s2.hp wr) E3 → E2.le E3 → QL C w0 pb F0 Ds E0 n np Q (.panic [{ v := x, recovered := false }]) a2 E3.w := fun s2 a2 E2 E3 x wr q1 q2 q3 q4 q5 q6 q7 q8 => by
    obtain ⟨m2, h2', k1, k2⟩ := wrL_spec n np σ' wr m' h' _ q6
    let σ'' : List PV := (List.range n).map s2.tm
    have hσ : σ''.length = n := by simp [σ'']
    refine ⟨σ'', m2, h2', E3, rfl, hσ, ⟨?_, q4.d, q4.n.trans q1, fun b g hb => by have := q4.np b g hb; rw [q2] at this; exact this, fun t => ?_⟩, hle0.trans (q5.trans q8), k1 σ'' ⟨hσ, fun h => by cases h⟩⟩
    · have e1 : applyW s2.hp wr = (mkS n np σ'' m2 h2').hp := by
        rw [q3, k2]
        funext b
        rw [mkS_hp, mkS_hp]
      rw [← e1]; exact q7
    · show Rep E3 (σ''.getD t .top) _
      by_cases ht : t < n
      · have e2 : σ''.getD t .top = s2.tm t := by simp [σ'', List.getD, ht]
        rw [e2]; exact (q4.t t).le q8
      · rw [show σ''.getD t .top = .top by simp [List.getD, σ'', ht]]
        exact .top _
  have hlen1 : List.range' 0 l1.length = List.range l1.length := by rw [List.range_eq_range']
  rw [hlen1] at r
  cases draw with
  | false =>
    refine wp_region ?_
    have hsplit : List.range ops.size = List.range l1.length ++ l1.length :: List.range' (l1.length + 1) l2.length := by
      rw [hsz, List.range_eq_range', List.range_eq_range', show l1.length + 1 + l2.length = l1.length + (l2.length + 1) by omega, ← List.range'_append_1, List.range'_succ]
      simp
    rw [hsplit]
    refine seq_die r hr fun a' E' h2' hle => ?_
    rw [wpOps_cons]
    refine die_op hd h2 h2' hk2 fun x wr E3 hD hR hle3 => ?_
    obtain ⟨m2, h2s, k1, k2⟩ := wrL_spec n np σ' wr m' h' _ hD
    have e1 : applyW (mkS n np σ' m' h').hp wr = (mkS n np σ' m2 h2s).hp := k2
    exact ⟨σ', m2, h2s, E3, rfl, hl', ⟨by rw [← e1]; exact hR, h2'.d, h2'.n, h2'.np, fun t => (h2'.t t).le hle3⟩, hle0.trans (hle.trans hle3), k1 σ' ⟨hl', fun _ => rfl⟩⟩
  | true =>
    obtain ⟨h3, h4⟩ := h3 rfl
    simp only [drawOk, Bool.and_eq_true] at h3
    refine wp_region_any hm ?_
    obtain ⟨hR, hle⟩ := hr.h.drew
    have hr' : RelS C w0 pb F0 Ds (mkS n np σ m h) a ⟨E.w.drew, E.F, E.β, E.O⟩ := ⟨hR, hr.d, hr.n, hr.np, fun t => (hr.t t).le hle⟩
    have hqt : ∀ x ∈ tr, x.2.2 = [] := fun x hx => by
      have e : ((tr.map fun y : Nat × FP => y.2).reverse ++ []).reverse = tr.map fun y : Nat × FP => y.2 := by rw [List.append_nil, List.reverse_reverse]
      have h6 := hk1 rfl
      rw [e] at h6
      exact List.isEmpty_iff.1 (List.all_eq_true.1 h6 x.2 (List.mem_map_of_mem hx))
    have hq0 := run_quiet r hqt
    refine die_any h3.1 h3.2 hd h2 (fun j hj hjs => ?_) ops.size (List.range l1.length) _ _ tr _ a _ (by simp; omega) (List.pairwise_lt_range) (fun i => ?_) (by rw [getD_replicate_false]) (by simp) (fun j oj _ hl => by rw [getD_replicate_false] at hl; cases hl) r hqt hk2 hr' fun s2 a2 E2 x wr E3 q1 q2 q3 q4 q5 q6 q7 q8 => fin s2 a2 E2 E3 x wr q1 q2 (q3.trans hq0.1.symm) q4 (hle.trans q5) q6 q7 q8
    · have h5 := List.all_eq_true.1 h4 (j - (l1.length + 1)) (List.mem_range.2 (by omega))
      rwa [show l1.length + 1 + (j - (l1.length + 1)) = j by omega] at h5
    · rw [getD_replicate_false]
      simp
/-- A call that is walked where it stands. -/
theorem callI_sound {s : St} {a : Act} {E : Env} (hr : RelS C w0 pb F0 Ds s a E) {o : Oper} {f : FuncId} {cargs : List PV} (hc : calleeI C (C.ev s) o.op f cargs) {Pz : Value → World → Prop}
    (hcall : ∀ vs, RepC E cargs vs → Calls C.P f vs E.w fun e w' => ∃ z, e = .returned z ∧ Pz z w') {next : Act → World → Prop} {Q : Exit → Act → World → Prop} (hn : ∀ z w', Pz z w' → next (a.put o.dst z) w') : o.wp C.P a E.w next Q := by
  unfold calleeI at hc
  split at hc
  · rename_i c ho
    obtain ⟨callee, args, argTypes⟩ := c
    simp only at hc
    split at hc
    · rename_i g
      obtain ⟨hfn, rfl, rfl⟩ := hc
      unfold callOk at hfn
      split at hfn
      · rename_i fn hf
        simp only [Bool.and_eq_true, Bool.not_eq_true'] at hfn
        obtain ⟨hb, hname⟩ := hfn
        have hargs : RepC E (args.toList.map (C.ev s)) (args.map a.eval) := by
          refine ⟨by simp, fun i hi => ?_⟩
          have hi' : i < args.size := by simpa using hi
          have := hr.ev args[i]
          simpa [List.getD, Array.getD, hi'] using this
        have hrun : (execOp a.eval o).run C.P E.w = .ok (.enter f (args.map a.eval)) E.w := by
          have hbn : ¬ fn.body = none := fun e => by rw [e] at hb; cases hb
          have hn0 : ¬ fn.name = "runtime.NumGoroutine" := by simpa using hname
          simp [execOp, ho, resolve, Act.eval, Deferred.ofValue, invoke, callFunc, hf, hn0, hbn]
        unfold Oper.wp
        rw [hrun]
        refine (hcall _ hargs).mono ?_
        rintro en w' ⟨z, rfl, ha⟩
        exact hn _ _ ha
      · cases hfn
    · rename_i fo _
      have hfo := hr.ev fo
      split at hc
      · rename_i g caps hclo
        rw [hclo] at hfo
        generalize hax : a.eval fo = ax at *
        cases hfo with
        | clo _ _ cvs hcl hcr =>
          obtain ⟨hfn, rfl, rfl⟩ := hc
          unfold callOk at hfn
          split at hfn
          · rename_i fn hf
            simp only [Bool.and_eq_true, Bool.not_eq_true'] at hfn
            obtain ⟨hb, hname⟩ := hfn
            have hargs : RepC E ((args.toList.map (C.ev s)) ++ caps) (args.map a.eval ++ cvs) := by
              refine ⟨by simp [hcl], fun i hi => ?_⟩
              by_cases hlt : i < args.size
              · have := hr.ev args[i]
                rw [getD_app_left _ _ _ (by simpa using hlt)]
                have e2 : (args.map a.eval ++ cvs).getD i undef = a.eval args[i] := by
                  simp only [Array.getD_eq_getD_getElem?]
                  rw [Array.getElem?_append_left (by simpa using hlt)]
                  simp [hlt]
                rw [e2]
                simpa [List.getD, hlt] using this
              · have hi' : i - args.size < caps.length := by simp at hi; omega
                have := hcr _ hi'
                rw [getD_app_right _ _ _ (by simp; omega)]
                have e2 : (args.map a.eval ++ cvs).getD i undef = cvs.getD (i - args.size) undef := by
                  simp only [Array.getD_eq_getD_getElem?]
                  rw [Array.getElem?_append_right (by simp; omega)]
                  simp
                rw [e2]
                simpa using this
            have hrun : (execOp a.eval o).run C.P E.w = .ok (.enter f (args.map a.eval ++ cvs)) E.w := by
              have hbn : ¬ fn.body = none := fun e => by rw [e] at hb; cases hb
              have hn0 : ¬ fn.name = "runtime.NumGoroutine" := by simpa using hname
              simp [execOp, ho, resolve, hax, Deferred.ofValue, invoke, callFunc, hf, hn0, hbn]
            unfold Oper.wp
            rw [hrun]
            refine (hcall _ hargs).mono ?_
            rintro en w' ⟨z, rfl, ha⟩
            exact hn _ _ ha
          · cases hfn
      · exact hc.elim
    · exact hc.elim
  · exact hc.elim
theorem runI_sound {ops : Array Oper} {n np : Nat} {E0 : Env} {K : XK} {Q : Exit → Act → World → Prop} (hq : ∀ σ m h a E, σ.length = n → K σ m h → RelS C w0 pb F0 Ds (mkS n np σ m h) a E → (E0.cut (np + 1)).le E → Q .normal a E.w) :
    ∀ (l : List Oper) (k : Nat) (σ : List PV) (m : Nat) (h : List (Nat × HC)) (a : Act) (E : Env), σ.length = n → (∀ j, l[j]? = ops[k + j]?) → vcRunI C ops n np l σ m h K → RelS C w0 pb F0 Ds (mkS n np σ m h) a E → (E0.cut (np + 1)).le E → wpOps C.P ops Q (List.range' k l.length) a E.w
  | [], k, σ, m, h, a, E, hl, _, hv, hr, hle0 => hq σ m h a E hl hv hr hle0
  | o :: l, k, σ, m, h, a, E, hl, hops, hv, hr, hle0 => by
    have h0 : ops[k]? = some o := by simpa using (hops 0).symm
    have hl' : ∀ j, l[j]? = ops[k + 1 + j]? := fun j => by have := hops (j + 1); simpa [Nat.add_assoc, Nat.add_comm 1 j] using this
    show wpOps C.P ops Q (k :: List.range' (k + 1) l.length) a E.w
    rw [wpOps_cons]
    rcases vcGuard_ex hv with ⟨hw, hv⟩ | ⟨hw, hv⟩
    · cases hv with
      | op hv =>
        obtain ⟨e, h1, h2⟩ := vcOp_ex hv
        rw [force_eq] at h2
        obtain ⟨σ', h3, h4, h5⟩ := mkS_put hl m h o.dst e.v _ h2
        obtain ⟨m', hh', h6, h7⟩ := wrL_spec n np σ' e.wr m h _ h3
        have hst : (mkS n np σ m h).step o e = mkS n np σ' m' hh' := by
          unfold St.step
          rw [h5]
          have ext : ∀ x y : St, x.n = y.n → x.np = y.np → x.tm = y.tm → x.hp = y.hp → x = y := by rintro ⟨_, _, _, _⟩ ⟨_, _, _, _⟩ rfl rfl rfl rfl; rfl
          exact ext _ _ rfl rfl rfl h7
        refine yld_sound hr h0 (.inr ⟨hw, h1⟩) fun a' E' hr' hle => ?_
        rw [hst] at hr'
        exact runI_sound hq l (k + 1) σ' m' hh' a' E' h4 hl' h6 hr' (hle0.trans hle)
      | inl f args R hc hb hnp hs hk =>
        have hnpm : np < m := Nat.blt_eq ▸ hnp
        unfold wpOp
        rw [h0]
        simp only
        rw [if_pos (yielded_of hr hw)]
        refine .inl (callI_sound hr hc (Pz := fun z w' => ∃ p m' h' E', E'.w = w' ∧ HR C w0 pb F0 (mkS 0 0 [] m' h').hp E' ∧ Rep E' p z ∧ (E.cut m).le E' ∧ R p m' h') (fun vs hvs => ?_) fun z w' hz => ?_)
        · refine (hs w0 pb F0 E vs hr.h hvs fun b g hb => Nat.lt_of_le_of_lt (hr.np b g hb) hnpm).mono ?_
          rintro e w' ⟨z, p, m', h', E', rfl, q⟩
          exact ⟨z, rfl, p, m', h', E', q⟩
        · obtain ⟨p, m', h', E', rfl, q1, q2, q3, q4⟩ := hz
          have base : RelS C w0 pb F0 Ds (mkS n np σ m' h') a E' := by
            refine ⟨q1, hr.d, hr.n, hr.np, fun t => ?_⟩
            show Rep E' (σ.getD t .top) _
            by_cases hlt : t < σ.length
            · have h1 := hr.t t
              have hbb := List.all_eq_true.1 hb σ[t] (List.getElem_mem hlt)
              have h2 : Rep E (σ.getD t .top) (a.tmps.getD t undef) := h1
              rw [getD_eq hlt] at h2 ⊢
              exact (h2.cut hbb).le q3
            · rw [show σ.getD t .top = .top by simp [List.getD, hlt]]
              exact .top _
          obtain ⟨σ', h3, h4, h5⟩ := mkS_put hl m' h' o.dst p _ (hk p m' h' q4)
          have hput := base.put (d := o.dst) (hp' := (mkS n np σ m' h').hp) q1 (Env.le.refl E') q2
          have e1 : { (mkS n np σ m' h').put o.dst p with hp := (mkS n np σ m' h').hp } = mkS n np σ' m' h' := by rw [h5]; rfl
          rw [e1] at hput
          exact runI_sound hq l (k + 1) σ' m' h' _ E' h4 hl' h3 hput ((Env.cut_le hle0 hnpm).trans q3)
    · obtain ⟨σ', h3, h4, h5⟩ := mkS_put hl m h o.dst (.v undef) _ hv
      refine yld_sound hr h0 (.inl ⟨hw, rfl⟩) fun a' E' hr' hle => ?_
      rw [step_eff0, h5] at hr'
      exact runI_sound hq l (k + 1) σ' m h a' E' h4 hl' h3 hr' (hle0.trans hle)
theorem sub_lt {n np : Nat} {σ l : List PV} {m m' : Nat} {h h' : List (Nat × HC)} (hs : Sub (mkS n np σ m h) l m' h') : np + 1 ≤ m' := by
  obtain ⟨_, _, h3⟩ := hs
  simp only [Bool.and_eq_true] at h3
  have : np < m' := Nat.blt_eq ▸ h3.1.1
  omega
theorem codeL_sound (hm : C.P.follows .mixedOrders = true) (n np : Nat) (E0 : Env) : ∀ (c : Code) (Q : Exit → XK) (σ : List PV) (m : Nat) (h : List (Nat × HC)) (a : Act) (E : Env), vcCL C n np c Q σ m h → σ.length = n → RelS C w0 pb F0 Ds (mkS n np σ m h) a E → (E0.cut (np + 1)).le E → c.wp C.P (QL C w0 pb F0 Ds E0 n np Q) a E.w := by
  intro c
  induction c with
  | skip => intro Q σ m h a E hv hl hr hle0; exact wp_skip ⟨σ, m, h, E, rfl, hl, hr, hle0, hv⟩
  | label l => intro Q σ m h a E hv hl hr hle0; exact wp_label ⟨σ, m, h, E, rfl, hl, hr, hle0, hv⟩
  | region id ops draw =>
    intro Q σ m h a E hv hl hr hle0
    cases draw with
    | false =>
      rcases hv with hv | hv | hv
      · exact regionL_seq hl hr hle0 hv
      rotate_left
      · exact regionL_die hm hl hr hle0 hv
      · refine wp_region ?_
        have := runI_sound (Q := QL C w0 pb F0 Ds E0 n np Q) (fun σ m h a E hl hk hr hle => ⟨σ, m, h, E, rfl, hl, hr, hle, hk⟩) ops.toList 0 σ m h a E hl (fun j => by simp) hv hr hle0
        have hrange : List.range' 0 ops.toList.length = List.range ops.size := by rw [List.range_eq_range']; simp
        rw [hrange] at this
        exact this
    | true =>
      rcases hv with hv | hv
      · exact regionL_draw hm hv.1 hl hr hle0 hv.2
      · exact regionL_die hm hl hr hle0 hv
  | scope c ih =>
    intro Q σ m h a E hv hl hr hle0
    refine wp_scope_straight (wp_mono (ih _ σ m h a E hv hl hr hle0) fun e a' w' hq => ?_)
    obtain ⟨σ', m', h', E', rfl, hl', hr', hle, hq⟩ := hq
    cases e with
    | goto l => exact hq.elim
    | _ => exact ⟨σ', m', h', E', rfl, hl', hr', hle, hq⟩
  | seq x y ihx ihy =>
    intro Q σ m h a E hv hl hr hle0
    cases hv with
    | go hv =>
      refine wp_seq (wp_mono (ihx _ σ m h a E hv hl hr hle0) fun e a' w' hq => ?_)
      obtain ⟨σ', m', h', E', rfl, hl', hr', hle, hq⟩ := hq
      cases e with
      | normal => exact ihy Q σ' m' h' a' E' hq hl' hr' hle
      | _ => exact ⟨σ', m', h', E', rfl, hl', hr', hle, hq⟩
    | cut I h1 h2 =>
      refine wp_seq (wp_mono (ihx _ σ m h a E h1 hl hr hle0) fun e a' w' hq => ?_)
      obtain ⟨σ', m', h', E', rfl, hl', hr', hle, hq⟩ := hq
      cases e with
      | normal =>
        obtain ⟨l, m'', h'', hl2, hs, hI⟩ := hq
        exact ihy Q l m'' h'' a' (E'.cut m'') (h2 l m'' h'' hl2 hI) hl2 (hr'.sub hs) (Env.cut_le hle (sub_lt hs))
      | _ => exact ⟨σ', m', h', E', rfl, hl', hr', hle, hq⟩
  | cond c x y ihx ihy =>
    intro Q σ m h a E hv hl hr hle0
    unfold vcCL at hv
    split at hv
    · rename_i b hb
      have hc := hr.ev c
      rw [hb] at hc
      have hc := hc.v_eq
      cases b
      · exact wp_cond_false hc (ihy Q σ m h a E (hv.2 rfl) hl hr hle0)
      · exact wp_cond_true hc (ihx Q σ m h a E (hv.1 rfl) hl hr hle0)
    · exact hv.elim
  | block id c ih =>
    intro Q σ m h a E hv hl hr hle0
    refine wp_block (wp_mono (ih _ σ m h a E hv hl hr hle0) fun e a' w' hq => ?_)
    obtain ⟨σ', m', h', E', rfl, hl', hr', hle, hq⟩ := hq
    cases e with
    | exit id' =>
      simp only [Exit.inBlock]
      simp only at hq
      split at hq
      · rename_i e
        rw [if_pos (Nat.eq_of_beq_eq_true e)]
        exact ⟨σ', m', h', E', rfl, hl', hr', hle, hq⟩
      · rename_i e
        rw [if_neg (fun e' => by rw [e', Nat.beq_refl] at e; cases e)]
        exact ⟨σ', m', h', E', rfl, hl', hr', hle, hq⟩
    | _ => exact ⟨σ', m', h', E', rfl, hl', hr', hle, hq⟩
  | loop c ih =>
    intro Q σ m h a E hv hl hr hle0
    obtain ⟨I, ⟨k, l, m', h', hl', hs, hI⟩, hbody⟩ := hv
    refine wp_loop_at (fun k a w => ∃ l m hp E, E.w = w ∧ l.length = n ∧ I k l m hp ∧ RelS C w0 pb F0 Ds (mkS n np l m hp) a E ∧ (E0.cut (np + 1)).le E) ⟨k, l, m', h', E.cut m', rfl, hl', hI, hr.sub hs, Env.cut_le hle0 (sub_lt hs)⟩ fun k a w => ?_
    rintro ⟨l, m, hp, E, rfl, hl, hI, hr, hle0⟩
    refine wp_mono (ih _ l m hp a E (hbody k l m hp hl hI) hl hr hle0) fun e a' w' hq => ?_
    obtain ⟨σ', m', h', E', rfl, hl', hr', hle, hq⟩ := hq
    cases e with
    | normal =>
      obtain ⟨k', l', m'', h'', hlt, hl2, hs', hI'⟩ := hq
      exact ⟨k', hlt, l', m'', h'', E'.cut m'', rfl, hl2, hI', hr'.sub hs', Env.cut_le hle (sub_lt hs')⟩
    | _ => exact ⟨σ', m', h', E', rfl, hl', hr', hle, hq⟩
  | exit id => intro Q σ m h a E hv hl hr hle0; exact wp_exit ⟨σ, m, h, E, rfl, hl, hr, hle0, hv⟩
  | ret => intro Q σ m h a E hv hl hr hle0; exact wp_ret ⟨σ, m, h, E, rfl, hl, hr, hle0, hv⟩
  | _ => intro Q σ m h a E hv; exact hv.elim
end
def vcEndL (C : Ctx) (fn : Func) (n np : Nat) (r : PV) (outs : List HC) (e : Exit) (σ : List PV) (m : Nat) (h : List (Nat × HC)) : Prop := vcEnd C fn r outs e (mkS n np σ m h)
/-- What a function's body says of its calls; n: how many slots it has. -/
theorem spec_of_bodyH {C : Ctx} (hm : C.P.follows .mixedOrders = true) (hgpk : ∀ w w' : World, (∀ k, k < C.gs → w'.heap[k]? = w.heap[k]?) → C.GP w → C.GP w') {f : FuncId} {fn : Func} {c : Code} (hf : C.P.funcs[f]? = some fn) (hb : fn.body = some c)
    {ars : List PV} {ins : List HC} {r : PV} {outs : List HC} (n np : Nat) (hin : ∀ c ∈ ins, c.okIn = true) (hn : ars.length + (fn.ntmps - ars.length) = n) (hnp : ins.length = np) (hr : r.plain = true) (hol : outs.length = ins.length)
    (hv : vcCL C n np c (vcEndL C fn n np r outs) (ars ++ List.replicate (n - ars.length) .top) (np + 1) (insHeap ins 1)) : SpecH C f ars ins r outs :=
  spec_of_wp hgpk hf hb hin hr hol fun w0 pb F0 a E hrel => by
    have e : entry fn ars ins = mkS n np (ars ++ List.replicate (n - ars.length) .top) (np + 1) (insHeap ins 1) := by
      have ext : ∀ x y : St, x.n = y.n → x.np = y.np → x.tm = y.tm → x.hp = y.hp → x = y := by rintro ⟨_, _, _, _⟩ ⟨_, _, _, _⟩ rfl rfl rfl rfl; rfl
      refine ext _ _ hn hnp ?_ (by subst hnp; rfl)
      funext t
      show ars.getD t PV.top = (ars ++ List.replicate (n - ars.length) PV.top).getD t PV.top
      by_cases ht : t < ars.length
      · rw [getD_app_left _ _ _ ht]
      · rw [getD_app_right _ _ _ (by omega)]
        simp only [List.getD, List.getElem?_eq_none (Nat.le_of_not_lt ht), List.getElem?_replicate]
        split <;> rfl
    rw [e] at hrel
    have hl : (ars ++ List.replicate (n - ars.length) PV.top).length = n := by
      rw [List.length_append, List.length_replicate]; omega
    exact wp_mono (codeL_sound hm n np E c _ _ _ _ a E hv hl hrel (Env.cut_self E _)) fun _ _ _ ⟨σ, m, h, E', h1, _, h2, _, h3⟩ => ⟨_, E', h1, h2, h3⟩
theorem spec_of_bodyL {C : Ctx} (hm : C.P.follows .mixedOrders = true) (hgpk : ∀ w w' : World, (∀ k, k < C.gs → w'.heap[k]? = w.heap[k]?) → C.GP w → C.GP w') {f : FuncId} {fn : Func} {c : Code} (hf : C.P.funcs[f]? = some fn) (hb : fn.body = some c)
    {ars : List PV} {ins : List (List PV)} {r : PV} {outs : List (List PV)} (n np : Nat) (hn : ars.length + (fn.ntmps - ars.length) = n) (hnp : ins.length = np) (hr : r.plain = true) (hol : outs.length = ins.length)
    (hv : vcCL C n np c (vcEndL C fn n np r (outs.map .cells)) (ars ++ List.replicate (n - ars.length) .top) (np + 1) (insHeap (ins.map .cells) 1)) (hin : (ins.all fun c => c.all PV.leaf) = true := by kernel_rfl) : Spec C f ars ins r outs :=
  spec_of_bodyH hm hgpk hf hb n np (fun c hc => by
    obtain ⟨d, hd, rfl⟩ := List.mem_map.1 hc
    exact List.all_eq_true.1 hin d hd) hn (by rw [List.length_map]; exact hnp) hr (by rw [List.length_map, List.length_map]; exact hol) hv
end Go.Proofs.YtddggjmfplohkaaDoor
/- The machine of plain values, step by step: each rule's premise is written out, so that no check runs the rest of the code; no program is named here. -/
namespace Go.Proofs.YtddggjmfplohkaaDoor
open Go.RowKit
/-- One step of an operation that is wanted. -/
def stepY (C : Ctx) (n np : Nat) (σ : List PV) (m : Nat) (h : List (Nat × HC)) (o : Oper) (K : List PV → Nat → List (Nat × HC) → FP → Prop) : Prop :=
  vcOp C np (C.ev (mkS n np σ m h)) o.op (mkS n np σ m h).hp fun e => e.v.force fun v => putL σ o.dst v fun σ' => wrL m h e.wr fun m' h' => K σ' m' h' e.fp
def thenL (C : Ctx) (n np : Nat) (y : Code) (Q : Exit → XK) : Exit → XK := fun e σ m h => match e with
  | .normal => vcCL C n np y Q σ m h
  | e => Q e σ m h
def cutL (n np : Nat) (I : XK) (Q : Exit → XK) : Exit → XK := fun e σ m h => match e with
  | .normal => ∃ l m'' h'', l.length = n ∧ Sub (mkS n np σ m h) l m'' h'' ∧ I l m'' h''
  | e => Q e σ m h
def blockL (id : Nat) (Q : Exit → XK) : Exit → XK := fun e σ m h => match e with
  | .exit id' => match Nat.beq id' id with
    | true => Q .normal σ m h
    | false => Q (.exit id') σ m h
  | e => Q e σ m h
def roundL (n np k : Nat) (I : Inv) (Q : Exit → XK) : Exit → XK := fun e σ m h => match e with
  | .normal => ∃ k' l' m'' h'', k' < k ∧ l'.length = n ∧ Sub (mkS n np σ m h) l' m'' h'' ∧ I k' l' m'' h''
  | e => Q e σ m h
def seqK (Q : Exit → XK) : List PV → Nat → List (Nat × HC) → List FP → Prop := fun σ m h _ => Q .normal σ m h
def drawK (ops : Array Oper) (Q : Exit → XK) : List PV → Nat → List (Nat × HC) → List FP → Prop := fun σ m h tr => traceOk ops tr.reverse = true ∧ Q .normal σ m h
theorem vb_eq {x b : Bool} (h : x = b) : PV.v (.bool x) = .v (.bool b) := by rw [h]
section
variable {C : Ctx} {ops : Array Oper} {n np : Nat} {o : Oper} {l : List Oper} {σ σ' : List PV} {m m' : Nat} {h h' : List (Nat × HC)} {tr : List FP} {fp : FP} {Kf : List PV → Nat → List (Nat × HC) → List FP → Prop} {Q : Exit → XK} {x y : Code} {id : Nat}
theorem wanted_none {s : St} (hg : o.guard = none) : wantedA ops s o = some true := by unfold wantedA; rw [hg]
theorem wanted_t {s : St} {j : Nat} {want b : Bool} {d : Tmp} (hg : o.guard = some (j, want)) (hd : (ops[j]?).bind (·.dst) = some d) (hs : s.tm d = .v (.bool b)) (hb : b = want) : wantedA ops s o = some true := by
  unfold wantedA; rw [hg]; simp only [hd, hs, hb]; simp
theorem wanted_f {s : St} {j : Nat} {want b : Bool} {d : Tmp} (hg : o.guard = some (j, want)) (hd : (ops[j]?).bind (·.dst) = some d) (hs : s.tm d = .v (.bool b)) (hb : b = !want) : wantedA ops s o = some false := by
  unfold wantedA; rw [hg]; simp only [hd, hs, hb]; cases want <;> rfl
theorem wanted_u {s : St} {j : Nat} {want : Bool} {d : Tmp} (hg : o.guard = some (j, want)) (hd : (ops[j]?).bind (·.dst) = some d) (hs : s.tm d = .v undef) : wantedA ops s o = some false := by
  unfold wantedA; rw [hg]; simp only [hd, hs]; rfl
theorem match_t {b want : Bool} {yes no : Prop} (hw : (b == want) = true) (h : yes) : (match (generalizing := false) want with
    | true => bsplit b yes no
    | false => bsplit b no yes) := by
  cases b <;> cases want <;> first | exact bsplit_t rfl h | exact bsplit_f rfl h | cases hw
theorem match_f {b want : Bool} {yes no : Prop} (hw : (b == want) = false) (h : no) : (match (generalizing := false) want with
    | true => bsplit b yes no
    | false => bsplit b no yes) := by
  cases b <;> cases want <;> first | exact bsplit_t rfl h | exact bsplit_f rfl h | cases hw
theorem guard_t {s : St} {yes no : Prop} (hw : wantedA ops s o = some true) (h : yes) : vcGuard ops s o yes no := by
  unfold wantedA at hw
  unfold vcGuard
  split at hw
  · exact h
  · split at hw
    · split at hw
      · exact match_t (Option.some.inj hw) h
      · cases hw
      · cases hw
    · cases hw
theorem guard_f {s : St} {yes no : Prop} (hw : wantedA ops s o = some false) (h : no) : vcGuard ops s o yes no := by
  unfold wantedA at hw
  unfold vcGuard
  split at hw
  · cases hw
  · split at hw
    · split at hw
      · exact match_f (Option.some.inj hw) h
      · exact h
      · cases hw
    · cases hw
theorem run_y (hw : wantedA ops (mkS n np σ m h) o = some true) (h1 : ∀ K : List PV → Nat → List (Nat × HC) → FP → Prop, K σ' m' h' fp → stepY C n np σ m h o K) (h2 : vcRunL C ops n np l σ' m' h' (fp :: tr) Kf) : vcRunL C ops n np (o :: l) σ m h tr Kf := by
  unfold vcRunL
  exact guard_t hw (h1 (fun σ' m' h' fp => vcRunL C ops n np l σ' m' h' (fp :: tr) Kf) h2)
theorem run_skip (hw : wantedA ops (mkS n np σ m h) o = some false) (h1 : ∀ K : List PV → Prop, K σ' → putL σ o.dst (.v undef) K) (h2 : vcRunL C ops n np l σ' m h (([], []) :: tr) Kf) : vcRunL C ops n np (o :: l) σ m h tr Kf := by
  unfold vcRunL
  exact guard_f hw (h1 (fun σ' => vcRunL C ops n np l σ' m h (([], []) :: tr) Kf) h2)
/-- Two ways at an operation that is guarded. -/
theorem run_b {j : Nat} {want b : Bool} {d : Tmp} (_hg : o.guard = some (j, want)) (_hd : (ops[j]?).bind (·.dst) = some d) (_hs : (mkS n np σ m h).tm d = .v (.bool b)) (ht : b = true → vcRunL C ops n np (o :: l) σ m h tr Kf) (hf : b = false → vcRunL C ops n np (o :: l) σ m h tr Kf) : vcRunL C ops n np (o :: l) σ m h tr Kf := by
  cases b
  · exact hf rfl
  · exact ht rfl
theorem run_end (hk : Kf σ m h tr) : vcRunL C ops n np [] σ m h tr Kf := hk
theorem run_seqK (hq : Q .normal σ m h) : vcRunL C ops n np [] σ m h tr (seqK Q) := hq
theorem run_drawK (ht : traceOk ops tr.reverse = true) (hq : Q .normal σ m h) : vcRunL C ops n np [] σ m h tr (drawK ops Q) := ⟨ht, hq⟩
theorem c_regI {l : List Oper} (hv : vcRunI C l.toArray n np l σ m h (Q .normal)) : vcCL C n np (.region id l.toArray false) Q σ m h := .inr (.inl hv)
theorem runI_y {K : XK} (hw : wantedA ops (mkS n np σ m h) o = some true) (h1 : ∀ K : List PV → Nat → List (Nat × HC) → FP → Prop, K σ' m' h' fp → stepY C n np σ m h o K) (h2 : vcRunI C ops n np l σ' m' h' K) : vcRunI C ops n np (o :: l) σ m h K := by
  unfold vcRunI
  exact guard_t hw (.op (h1 (fun σ' m' h' _ => vcRunI C ops n np l σ' m' h' K) h2))
theorem runI_end {K : XK} (hk : K σ m h) : vcRunI C ops n np [] σ m h K := hk
theorem runI_inl {K : XK} (f : FuncId) (args : List PV) (R : PV → Nat → List (Nat × HC) → Prop) (hw : wantedA ops (mkS n np σ m h) o = some true) (hc : calleeI C (C.ev (mkS n np σ m h)) o.op f args) (hb : σ.all (PV.bnd m) = true) (hnp : Nat.blt np m = true) (hs : SpecI C f args m h R)
    (hk : ∀ p m' h', R p m' h' → putL σ o.dst p fun σ' => vcRunI C ops n np l σ' m' h' K) : vcRunI C ops n np (o :: l) σ m h K := by
  unfold vcRunI
  exact guard_t hw (.inl f args R hc hb hnp hs hk)
theorem c_seq (hv : vcCL C n np x (thenL C n np y Q) σ m h) : vcCL C n np (.seq x y) Q σ m h := .go hv
/-- With a saying between both: the ways of the first one meet there. -/
theorem c_seq_cut (I : XK) (h1 : vcCL C n np x (cutL n np I Q) σ m h) (h2 : ∀ l m h, l.length = n → I l m h → vcCL C n np y Q l m h) : vcCL C n np (.seq x y) Q σ m h := .cut I h1 h2
theorem c_cut {I : XK} (hv : ∃ l m'' h'', l.length = n ∧ Sub (mkS n np σ m h) l m'' h'' ∧ I l m'' h'') : cutL n np I Q .normal σ m h := hv
theorem c_cut_exit {I : XK} (hv : Q (.exit id) σ m h) : cutL n np I Q (.exit id) σ m h := hv
theorem c_cut_ret {I : XK} (hv : Q .ret σ m h) : cutL n np I Q .ret σ m h := hv
/-- Where a walk stops: ahead of the region r. -/
inductive At (r : Nat) : Prop
  | mk
theorem c_stop {r : Nat} {ops : Array Oper} {d : Bool} {z : Code} (_ : At r) (hv : vcCL C n np (.seq (.seq (.region r ops d) z) y) Q σ m h) : vcCL C n np (.seq (.seq (.region r ops d) z) y) Q σ m h := hv
theorem c_stop2 {r : Nat} {ops : Array Oper} {d : Bool} (_ : At r) (hv : vcCL C n np (.seq (.region r ops d) y) Q σ m h) : vcCL C n np (.seq (.region r ops d) y) Q σ m h := hv
theorem c_then (hv : vcCL C n np y Q σ m h) : thenL C n np y Q .normal σ m h := hv
theorem c_then_exit (hv : Q (.exit id) σ m h) : thenL C n np y Q (.exit id) σ m h := hv
theorem c_then_ret (hv : Q .ret σ m h) : thenL C n np y Q .ret σ m h := hv
theorem c_skip (hv : Q .normal σ m h) : vcCL C n np .skip Q σ m h := hv
theorem c_exit (hv : Q (.exit id) σ m h) : vcCL C n np (.exit id) Q σ m h := hv
theorem c_ret (hv : Q .ret σ m h) : vcCL C n np .ret Q σ m h := hv
theorem c_reg {l : List Oper} (hv : vcRunL C l.toArray n np l σ m h [] (seqK Q)) : vcCL C n np (.region id l.toArray false) Q σ m h := .inl hv
theorem c_draw {l : List Oper} (hd : drawOk l.toArray = true) (hv : vcRunL C l.toArray n np l σ m h [] (drawK l.toArray Q)) : vcCL C n np (.region id l.toArray true) Q σ m h := .inl ⟨hd, hv⟩
theorem c_block (hv : vcCL C n np x (blockL id Q) σ m h) : vcCL C n np (.block id x) Q σ m h := hv
theorem c_block_n (hv : Q .normal σ m h) : blockL id Q .normal σ m h := hv
theorem c_block_ret (hv : Q .ret σ m h) : blockL id Q .ret σ m h := hv
theorem c_block_exit {id' : Nat} (hid : id' = id) (hv : Q .normal σ m h) : blockL id Q (.exit id') σ m h := by
  subst hid
  show (match Nat.beq id' id' with
    | true => Q .normal σ m h
    | false => Q (.exit id') σ m h)
  rw [Nat.beq_refl]; exact hv
theorem c_block_out {id' : Nat} (hid : Nat.beq id' id = false) (hv : Q (.exit id') σ m h) : blockL id Q (.exit id') σ m h := by
  show (match Nat.beq id' id with
    | true => Q .normal σ m h
    | false => Q (.exit id') σ m h)
  rw [hid]; exact hv
theorem c_round_exit {k : Nat} {I : Inv} (hv : Q (.exit id) σ m h) : roundL n np k I Q (.exit id) σ m h := hv
theorem c_round_ret {k : Nat} {I : Inv} (hv : Q .ret σ m h) : roundL n np k I Q .ret σ m h := hv
theorem c_round {k : Nat} {I : Inv} (hv : ∃ k' l' m'' h'', k' < k ∧ l'.length = n ∧ Sub (mkS n np σ m h) l' m'' h'' ∧ I k' l' m'' h'') : roundL n np k I Q .normal σ m h := hv
theorem c_loop (I : Inv) (h0 : ∃ k l m' h', l.length = n ∧ Sub (mkS n np σ m h) l m' h' ∧ I k l m' h') (h1 : ∀ k l m h, l.length = n → I k l m h → vcCL C n np x (roundL n np k I Q) l m h) : vcCL C n np (.loop x) Q σ m h := .mk I h0 h1
theorem c_cond {c : Operand} {b : Bool} (hc : C.ev (mkS n np σ m h) c = .v (.bool b)) (ht : b = true → vcCL C n np x Q σ m h) (hf : b = false → vcCL C n np y Q σ m h) : vcCL C n np (.cond c x y) Q σ m h := by
  unfold vcCL
  rw [hc]
  exact ⟨ht, hf⟩
theorem c_cond_t {c : Operand} {b : Bool} (hc : C.ev (mkS n np σ m h) c = .v (.bool b)) (hb : b = true) (ht : vcCL C n np x Q σ m h) : vcCL C n np (.cond c x y) Q σ m h := c_cond hc (fun _ => ht) (fun e => by rw [hb] at e; cases e)
theorem c_cond_f {c : Operand} {b : Bool} (hc : C.ev (mkS n np σ m h) c = .v (.bool b)) (hb : b = false) (hf : vcCL C n np y Q σ m h) : vcCL C n np (.cond c x y) Q σ m h := c_cond hc (fun e => by rw [hb] at e; cases e) (fun _ => hf)
end
end Go.Proofs.YtddggjmfplohkaaDoor
