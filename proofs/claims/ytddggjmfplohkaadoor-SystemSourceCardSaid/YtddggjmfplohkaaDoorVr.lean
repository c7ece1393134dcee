import Derived.Test.YtddggjmfplohkaaDoorVm
/- What a function's body says of calls that may end by a panic; no program is named here. -/
namespace Go.Proofs.YtddggjmfplohkaaDoor
open Go.RowKit
/-- At the end: the results, or what is thrown, and the boxes that came in. -/
def vcEndR (C : Ctx) (fn : Func) (np : Nat) (R : Bool → PV → List HC → Prop) (e : Exit) (s : St) : Prop :=
  match e with
  | .normal | .ret => resAll C s fn.results.toList (fun ps => ∃ r outs, EndOk s (one ps) r outs ∧ R true r outs ∧ r.plain = true ∧ outs.length = np)
  | .panic ch => ∃ x outs, ch = [{ v := x, recovered := false }] ∧ outsOk s 1 outs ∧ R false (.v x) outs ∧ outs.length = np
  | _ => False
section
variable {C : Ctx}
theorem spec_of_wpR (hgpk : ∀ w w' : World, (∀ k, k < C.gs → w'.heap[k]? = w.heap[k]?) → C.GP w → C.GP w') {f : FuncId} {fn : Func} {c : Code} (hf : C.P.funcs[f]? = some fn) (hb : fn.body = some c)
    {ars : List PV} {ins : List HC} {R : Bool → PV → List HC → Prop} (hin : ∀ c ∈ ins, c.okIn = true)
    (hv : ∀ (w0 : World) (pb : Nat → Option Nat) (F0 : Nat → Nat → Prop) (a : Act) (E : Env), RelS C w0 pb F0 [] (entry fn ars ins) a E → c.wp C.P (fun e a w => ∃ s E, E.w = w ∧ RelS C w0 pb F0 [] s a E ∧ vcEndR C fn ins.length R e s) a E.w) : SpecR C f ars ins R := by
  intro w F β vs hgp hgs hglob hargs hins hF hβF hβ hinj hbld
  refine calls_of_wp hf hb ?_
  obtain ⟨hid, hhid⟩ : ∃ hid : Option Nat, ∀ k, hid = some k ↔ BufIn ins w β k := by
    by_cases hex : ∃ k, BufIn ins w β k
    · obtain ⟨k, hk⟩ := hex
      refine ⟨some k, fun k' => ⟨fun e => by injection e with e; subst e; exact hk, fun hk' => ?_⟩⟩
      obtain ⟨j, T, e, s, g, v, q1, q2, q3, q4⟩ := hk
      obtain ⟨j', T', e', s', g', v', r1, r2, r3, r4⟩ := hk'
      have := hbld.2 j j' T e s T' e' s' q1 r1
      subst this
      rw [q2] at r2
      injection r2 with r2
      subst r2
      have := q3.v_eq r3
      subst this
      rw [← q4, ← r4]
    · exact ⟨none, fun k => ⟨fun e => (by cases e), fun hk => absurd ⟨k, hk⟩ hex⟩⟩
  let pb : Nat → Option Nat := fun b => if b = 0 then hid else β b
  have hpb0 : pb 0 = hid := if_pos rfl
  have hpbn : ∀ b, b ≠ 0 → pb b = β b := fun b hb => if_neg hb
  have hbuf : ∀ k, BufIn ins w β k → C.gs ≤ k ∧ k < w.heap.size := fun k hk => by
    obtain ⟨j, T, e, s, g, v, q1, q2, q3, q4⟩ := hk
    obtain ⟨g', v', r1, r2, r3⟩ := hbld.1 j T e s q1
    rw [q2] at r1
    injection r1 with r1
    subst r1
    have := q3.v_eq r2
    subst this
    exact ⟨(r3 k q4).1, q3.lt q4⟩
  let E : Env := ⟨w, F, β, fun _ => none⟩
  have hlen : ars.length = vs.size := hargs.1
  have hlk := fun b => look_ins b ins 1
  have hhp : ∀ b, b ≠ 0 → (entry fn ars ins).hp b = if 1 ≤ b ∧ b < 1 + ins.length then ins.getD (b - 1) .none else .none := fun b hb => by
    cases b with
    | zero => exact absurd rfl hb
    | succ b => exact hlk (b + 1)
  have hrel : RelS C w pb F [] (entry fn ars ins) { tmps := vs ++ Array.replicate (fn.ntmps - vs.size) undef, defers := [] } E := by
    refine ⟨⟨⟨hgp, hgpk, rfl, rfl, rfl, Nat.le_refl _, fun _ _ _ => rfl, hgs, hglob, fun g i hf => ⟨hF g i hf, fun _ => hf⟩, fun _ _ h => h, fun g hg => ?_, fun b g h0 hb => (hpbn b h0).symm.trans hb⟩, ?_⟩, rfl, ?_, fun b g hb => ?_, fun t => ?_⟩
    · obtain ⟨b, hb⟩ := hg
      by_cases h0 : b = 0
      · subst h0
        rw [hpb0] at hb
        exact hbuf g ((hhid g).1 hb)
      · rw [hpbn b h0] at hb
        exact (hβ b g hb).2.2
    · refine ⟨⟨ins.length + 1, rfl, by omega, fun b hb => ⟨?_, rfl, ?_⟩⟩, fun b hb => ?_, fun b g hb => ?_, hinj, fun t n e ht hrow => ?_, ?_⟩
      · cases hq : β b with
        | none => exact hq
        | some g => have := (hβ b g hq).2.1; omega
      · rw [hhp b (by omega), if_neg (by omega)]
      · rw [hhp b hb]
        by_cases hin' : 1 ≤ b ∧ b < 1 + ins.length
        · rw [if_pos hin']
          have := hins (b - 1) (by omega)
          rw [show b - 1 + 1 = b by omega] at this
          exact this
        · rw [if_neg hin']; trivial
      · have := hβ b g hb
        have h0 : b ≠ 0 := by omega
        exact ⟨h0, this.2.2.2, .inr ⟨b, h0, (hpbn b h0).trans hb⟩⟩
      · rw [hhp t ht] at hrow
        by_cases hin' : 1 ≤ t ∧ t < 1 + ins.length
        · rw [if_pos hin'] at hrow
          have hm := hin (ins.getD (t - 1) .none) (by rw [getD_eq (show t - 1 < ins.length by omega)]; exact List.getElem_mem _)
          rw [hrow] at hm; cases hm
        · rw [if_neg hin'] at hrow; cases hrow
      · have hin2 : ∀ b T e s, b ≠ 0 → (entry fn ars ins).hp b = .bld T e s → ins.getD (b - 1) .none = .bld T e s := fun b T e s h0 hb => by
          rw [hhp b h0] at hb
          by_cases hin' : 1 ≤ b ∧ b < 1 + ins.length
          · rw [if_pos hin'] at hb; exact hb
          · rw [if_neg hin'] at hb; cases hb
        refine ⟨fun b T e s h0 hb => ?_, fun b b' T e s T' e' s' h0 h0' hb hb' => ?_⟩
        · obtain ⟨g, v, r1, r2, r3⟩ := hbld.1 (b - 1) T e s (hin2 b T e s h0 hb)
          rw [show b - 1 + 1 = b by omega] at r1
          refine ⟨g, v, r1, r2, fun k hk => ⟨.inr (hpb0.trans ((hhid k).2 ⟨b - 1, T, e, s, g, v, hin2 b T e s h0 hb, by rw [show b - 1 + 1 = b by omega]; exact r1, r2, hk⟩)), (r3 k hk).2.1, (r3 k hk).2.2, fun t n e' o c ht hr ho hc => by cases ho⟩⟩
        · have := hbld.2 (b - 1) (b' - 1) T e s T' e' s' (hin2 b T e s h0 hb) (hin2 b' T' e' s' h0' hb')
          omega
    · show (vs ++ Array.replicate (fn.ntmps - vs.size) undef).size = ars.length + (fn.ntmps - ars.length)
      simp [hlen]
    · by_cases h0 : b = 0
      · subst h0; exact Nat.zero_le _
      · rw [hpbn b h0] at hb
        exact (hβ b g hb).2.1
    · show Rep E (ars.getD t .top) _
      by_cases ht : t < ars.length
      · have := hargs.2 t ht
        have ht' : t < vs.size := by omega
        have e : (vs ++ Array.replicate (fn.ntmps - vs.size) undef).getD t undef = vs.getD t undef := by
          simp only [Array.getD_eq_getD_getElem?]
          rw [Array.getElem?_append_left ht']
        rw [e]; exact this
      · rw [show ars.getD t .top = .top by simp [List.getD, ht]]
        exact .top _
  refine wp_mono (hv w pb F _ E hrel) fun e a' w' hq => ?_
  obtain ⟨s', E', rfl, h', hq⟩ := hq
  have tail : ∀ (p r : PV) (outs : List HC) (v : Value), Rep E' p v → EndOk s' p r outs → r.plain = true → outs.length = ins.length → E'.w.os = w.os ∧ E'.w.tape = w.tape ∧ E'.w.output = w.output ∧ w.heap.size ≤ E'.w.heap.size ∧
      (∀ k, k < w.heap.size → (∀ b, β b ≠ some k) → ¬ BufIn ins w β k → E'.w.heap[k]? = w.heap[k]?) ∧ (∀ g i, F g i → E'.F g i) ∧ (∀ g i, E'.F g i → F g i ∨ (w.heap.size ≤ g ∧ g < E'.w.heap.size)) ∧
      r.plain = true ∧ Rep ⟨E'.w, E'.F, β, fun _ => none⟩ r v ∧ outs.length = ins.length ∧ BoxesAt ⟨E'.w, E'.F, β, fun _ => none⟩ outs ∧ BldOut ins outs w E'.w E'.F β := fun p r outs v h2 hend hr hol => by
    obtain ⟨h3, h4⟩ := hend
    have hinn : E'.inn.le ⟨E'.w, E'.F, β, fun _ => none⟩ := ⟨fun _ _ h => h, fun _ _ _ => rfl, fun _ _ h => (by cases h), fun _ _ _ h => (by cases h)⟩
    refine ⟨h'.h.b.os, h'.h.b.tape, h'.h.b.output, h'.h.b.size, fun k hk hnb hnf => h'.h.b.old k hk (fun ⟨b, hb⟩ => ?_), h'.h.b.Fsub, fun g i hf => ?_, hr, ?_, hol, fun j hj => ?_, fun j T e s hj => ?_⟩
    · by_cases h0 : b = 0
      · subst h0
        rw [hpb0] at hb
        exact hnf ((hhid k).1 hb)
      · rw [hpbn b h0] at hb
        exact hnb b hb
    · rcases Nat.lt_or_ge g w.heap.size with hlt | hge
      · exact .inl ((h'.h.b.Fin g i hf).2 hlt)
      · exact .inr ⟨hge, (h'.h.b.Fin g i hf).1⟩
    · have := h2.demR
      rw [h3] at this
      exact (this.inn_plain hr).le hinn
    · obtain ⟨k2, k3⟩ := outs_get h4 j hj
      have hat := h'.h.o.at_ (1 + j) (by omega)
      obtain ⟨g, g1, _⟩ := hat.okIn k2
      have hb0 : ∃ g0, β (j + 1) = some g0 := by
        have hj' : j < ins.length := by omega
        obtain ⟨g0, q1, _⟩ := HAt.okIn (hins j hj') (hin _ (by rw [getD_eq hj']; exact List.getElem_mem hj'))
        exact ⟨g0, q1⟩
      obtain ⟨g0, q1⟩ := hb0
      have q2 := h'.h.b.kp (j + 1) g0 (by omega) ((hpbn _ (by omega)).trans q1)
      have hβj : β (j + 1) = E'.β (1 + j) := by rw [q1, ← q2, show j + 1 = 1 + j by omega]
      show HAt _ (j + 1) _
      rw [← k3]
      generalize s'.hp (1 + j) = c at *
      cases c with
      | cells cs =>
        obtain ⟨g, T, us, e1, e2, e3, e4, e5⟩ := hat
        have hall := List.all_eq_true.1 k2
        refine ⟨g, T, us, hβj.trans e1, e2, ⟨by simpa using e3.1, fun i hi => ?_⟩, fun i hi => e4 i (by simpa using hi), e5⟩
        have hi' : i < cs.length := by simpa using hi
        have := e3.2 i hi'
        rw [getD_eq hi'] at this
        rw [getD_eq hi, List.getElem_map]
        exact (this.inn_leaf (hall _ (List.getElem_mem hi'))).le hinn
      | mp es =>
        obtain ⟨g, ents, ck, e1, e2, e3, e4⟩ := hat
        exact ⟨g, ents, ck, hβj.trans e1, e2, e3, e4⟩
      | bld T e s =>
        obtain ⟨g, e1, e2⟩ := hat
        exact ⟨g, hβj.trans e1, e2⟩
      | _ => cases k2
    · have hjo : j < outs.length := by
        rcases Nat.lt_or_ge j outs.length with hlt | hge
        · exact hlt
        · rw [show outs.getD j .none = .none by simp [List.getD, hge]] at hj; cases hj
      obtain ⟨k2, k3⟩ := outs_get h4 j hjo
      have hsb : s'.hp (1 + j) = .bld T e s := by
        rw [hj] at k3
        generalize s'.hp (1 + j) = c at *
        cases c <;> simp [HC.demI] at k3
        simp [k3]
      obtain ⟨g, v, r1, r2, r3⟩ := h'.h.o.bl.at_ (1 + j) T e s (by omega) hsb
      have hb0 : ∃ g0, β (j + 1) = some g0 := by
        have hj' : j < ins.length := by omega
        obtain ⟨g0, q1, _⟩ := HAt.okIn (hins j hj') (hin _ (by rw [getD_eq hj']; exact List.getElem_mem hj'))
        exact ⟨g0, q1⟩
      obtain ⟨g0, q1⟩ := hb0
      have q2 := h'.h.b.kp (j + 1) g0 (by omega) ((hpbn _ (by omega)).trans q1)
      rw [show 1 + j = j + 1 by omega, q2] at r1
      injection r1 with r1
      subst r1
      refine ⟨g0, v, q1, r2, fun k hk => ⟨?_, (r3 k hk).2.1, fun b hb => ?_⟩⟩
      · rcases (r3 k hk).1 with h5 | h5
        · exact .inl h5
        · rw [hpb0] at h5; exact .inr ((hhid k).1 h5)
      · have h0 : b ≠ 0 := by have := (hβ b k hb).1; omega
        exact (r3 k hk).2.2.1 b (h'.h.b.kp b k h0 ((hpbn b h0).trans hb))
  have fin : resAll C s' fn.results.toList (fun ps => ∃ r outs, EndOk s' (one ps) r outs ∧ R true r outs ∧ r.plain = true ∧ outs.length = ins.length) → a'.defers = [] ∧ ∃ v, (results fn a'.tmps).run C.P E'.w = .ok v E'.w ∧ ∃ b r outs x F', R b r outs ∧ Ending.returned v = endE b x ∧ E'.w.os = w.os ∧ E'.w.tape = w.tape ∧ E'.w.output = w.output ∧ w.heap.size ≤ E'.w.heap.size ∧
      (∀ k, k < w.heap.size → (∀ b, β b ≠ some k) → ¬ BufIn ins w β k → E'.w.heap[k]? = w.heap[k]?) ∧ (∀ g i, F g i → F' g i) ∧ (∀ g i, F' g i → F g i ∨ (w.heap.size ≤ g ∧ g < E'.w.heap.size)) ∧
      r.plain = true ∧ Rep ⟨E'.w, F', β, fun _ => none⟩ r x ∧ outs.length = ins.length ∧ BoxesAt ⟨E'.w, F', β, fun _ => none⟩ outs ∧ BldOut ins outs w E'.w F' β := fun hq => by
    obtain ⟨ps, v, h1, h2, r, outs, hend, hR, hpl, hol⟩ := results_sound h' hq
    exact ⟨h'.d, v, h1, true, r, outs, v, E'.F, hR, rfl, tail _ _ _ _ h2 hend hpl hol⟩
  cases e with
  | normal => exact fin hq
  | ret => exact fin hq
  | panic ch =>
    obtain ⟨x, outs, rfl, ho, hR, hol⟩ := hq
    exact ⟨h'.d, false, .v x, outs, x, E'.F, hR, rfl, tail (.v x) (.v x) outs x (.v _) ⟨rfl, ho⟩ rfl hol⟩
  | _ => exact hq.elim
def vcEndRL (C : Ctx) (fn : Func) (n np : Nat) (R : Bool → PV → List HC → Prop) (e : Exit) (σ : List PV) (m : Nat) (h : List (Nat × HC)) : Prop := vcEndR C fn np R e (mkS n np σ m h)
/-- What a function's body says of its calls; n: how many slots it has. -/
theorem spec_of_bodyR (hm : C.P.follows .mixedOrders = true) (hgpk : ∀ w w' : World, (∀ k, k < C.gs → w'.heap[k]? = w.heap[k]?) → C.GP w → C.GP w') {f : FuncId} {fn : Func} {c : Code} (hf : C.P.funcs[f]? = some fn) (hb : fn.body = some c)
    {ars : List PV} {ins : List HC} {R : Bool → PV → List HC → Prop} (n np : Nat) (hin : ∀ c ∈ ins, c.okIn = true) (hn : ars.length + (fn.ntmps - ars.length) = n) (hnp : ins.length = np)
    (hv : vcCL C n np c (vcEndRL C fn n np R) (ars ++ List.replicate (n - ars.length) .top) (np + 1) (insHeap ins 1)) : SpecR C f ars ins R :=
  spec_of_wpR hgpk hf hb hin fun w0 pb F0 a E hrel => by
    have e : entry fn ars ins = mkS n np (ars ++ List.replicate (n - ars.length) .top) (np + 1) (insHeap ins 1) := by
      have ext : ∀ x y : St, x.n = y.n → x.np = y.np → x.tm = y.tm → x.hp = y.hp → x = y := by rintro ⟨_, _, _, _⟩ ⟨_, _, _, _⟩ rfl rfl rfl rfl; rfl
      refine ext _ _ hn hnp ?_ (by subst hnp; rfl)
      funext t
      show ars.getD t PV.top = (ars ++ List.replicate (n - ars.length) PV.top).getD t PV.top
      by_cases ht : t < ars.length
      · rw [getD_app_left _ _ _ ht]
      · rw [getD_app_right _ _ _ (by omega)]
        simp only [List.getD, List.getElem?_eq_none (Nat.le_of_not_lt ht), List.getElem?_replicate]
        split <;> rfl
    rw [e] at hrel
    have hl : (ars ++ List.replicate (n - ars.length) PV.top).length = n := by
      rw [List.length_append, List.length_replicate]; omega
    rw [hnp]
    exact wp_mono (codeL_sound hm n np E c _ _ _ _ a E hv hl hrel (Env.cut_self E _)) fun _ _ _ ⟨σ, m, h, E', h1, _, h2, _, h3⟩ => ⟨_, E', h1, h2, h3⟩
end
/- How a panic leaves a block, a round, a cut, a scope. -/
section
variable {C : Ctx} {n np : Nat} {σ : List PV} {m : Nat} {h : List (Nat × HC)} {Q : Exit → XK} {x y : Code} {id : Nat} {ch : List PanicEntry}
def scopeL (Q : Exit → XK) : Exit → XK := fun e σ m h => match e with
  | .goto _ => False
  | e => Q e σ m h
theorem c_scope (hv : vcCL C n np x (scopeL Q) σ m h) : vcCL C n np (.scope x) Q σ m h := hv
theorem c_scope_n (hv : Q .normal σ m h) : scopeL Q .normal σ m h := hv
theorem c_scope_ret (hv : Q .ret σ m h) : scopeL Q .ret σ m h := hv
theorem c_scope_exit (hv : Q (.exit id) σ m h) : scopeL Q (.exit id) σ m h := hv
theorem c_scope_panic (hv : Q (.panic ch) σ m h) : scopeL Q (.panic ch) σ m h := hv
theorem c_stop3 {r : Nat} {ops : Array Oper} {d : Bool} (_ : At r) (hv : vcCL C n np (.region r ops d) Q σ m h) : vcCL C n np (.region r ops d) Q σ m h := hv
theorem c_label {l : Nat} (hv : Q .normal σ m h) : vcCL C n np (.label l) Q σ m h := hv
theorem c_then_panic (hv : Q (.panic ch) σ m h) : thenL C n np y Q (.panic ch) σ m h := hv
theorem c_cut_panic {I : XK} (hv : Q (.panic ch) σ m h) : cutL n np I Q (.panic ch) σ m h := hv
theorem c_block_panic (hv : Q (.panic ch) σ m h) : blockL id Q (.panic ch) σ m h := hv
theorem c_round_panic {k : Nat} {I : Inv} (hv : Q (.panic ch) σ m h) : roundL n np k I Q (.panic ch) σ m h := hv
/-- A region that ends by the panic of its operation k. -/
theorem c_die (k : Nat) {l : List Oper} {d : Bool} {od : Oper} (hk : l = l.take k ++ od :: l.drop (k + 1)) (hg : od.guard = none) (hd : d = true → drawOk l.toArray = true ∧ ((List.range (l.drop (k + 1)).length).all fun i => aft (Region.before l.toArray) ((l.take k).length + 1 + i) (l.take k).length) = true)
    (hv : vcRunL C l.toArray n np (l.take k) σ m h [] fun σ' m' h' tr => dieK C n np od d (fun x => Q (.panic [{ v := x, recovered := false }])) σ' m' h' tr.reverse) : vcCL C n np (.region id l.toArray d) Q σ m h := by
  have hh : vcDieL C n np l.toArray d (fun x => Q (.panic [{ v := x, recovered := false }])) σ m h := .mk (l.take k) od (l.drop (k + 1)) hk hg hd hv
  cases d with
  | false => exact .inr (.inr hh)
  | true => exact .inr hh
end
end Go.Proofs.YtddggjmfplohkaaDoor
