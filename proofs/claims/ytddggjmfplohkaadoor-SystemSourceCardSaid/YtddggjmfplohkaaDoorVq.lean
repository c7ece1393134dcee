import Derived.Test.YtddggjmfplohkaaDoorVn
/- Calls that may end by a panic: their sayings; no program is named here. -/
namespace Go.Proofs.YtddggjmfplohkaaDoor
open Go.RowKit
/-- The ending: a value is given back, or it is thrown. -/
def endE (b : Bool) (x : Value) : Ending :=
  match b with
  | true => .returned x
  | false => .panicked [{ v := x, recovered := false }]
/-- Called with plain values, in whatever world, the function ends in one of these ways; but for the boxes that it is handed it only makes memory. -/
def SpecR (C : Ctx) (f : FuncId) (ars : List PV) (ins : List HC) (R : Bool → PV → List HC → Prop) : Prop :=
  ∀ (w : World) (F : Nat → Nat → Prop) (β : Nat → Option Nat) (vs : Array Value), C.GP w → C.gs ≤ w.heap.size →
    (∀ g, Rep ⟨w, F, fun _ => none, fun _ => none⟩ (C.glob g) (.pointer (some ⟨g, 0, none⟩))) → RepC ⟨w, F, β, fun _ => none⟩ ars vs → BoxesAt ⟨w, F, β, fun _ => none⟩ ins →
    (∀ g i, F g i → g < w.heap.size) → (∀ b g i, β b = some g → ¬ F g i) → (∀ b g, β b = some g → 0 < b ∧ b ≤ ins.length ∧ C.gs ≤ g ∧ g < w.heap.size) → (∀ b b' g, β b = some g → β b' = some g → b = b') → BldIn C ins w F β →
    Calls C.P f vs w fun e w' => ∃ b r outs x F', R b r outs ∧ e = endE b x ∧ w'.os = w.os ∧ w'.tape = w.tape ∧ w'.output = w.output ∧ w.heap.size ≤ w'.heap.size ∧
      (∀ k, k < w.heap.size → (∀ b, β b ≠ some k) → ¬ BufIn ins w β k → w'.heap[k]? = w.heap[k]?) ∧ (∀ g i, F g i → F' g i) ∧ (∀ g i, F' g i → F g i ∨ (w.heap.size ≤ g ∧ g < w'.heap.size)) ∧
      r.plain = true ∧ Rep ⟨w', F', β, fun _ => none⟩ r x ∧ outs.length = ins.length ∧ BoxesAt ⟨w', F', β, fun _ => none⟩ outs ∧ BldOut ins outs w w' F' β
theorem SpecR.mono {C : Ctx} {f : FuncId} {ars : List PV} {ins : List HC} {R R' : Bool → PV → List HC → Prop} (h : SpecR C f ars ins R) (hr : ∀ b r outs, R b r outs → R' b r outs) : SpecR C f ars ins R' := by
  intro w F β vs h1 h2 h3 h4 h5 h6 h7 h8 h9 h10
  refine (h w F β vs h1 h2 h3 h4 h5 h6 h7 h8 h9 h10).mono ?_
  rintro e w' ⟨b, r, outs, x, F', q, p⟩
  exact ⟨b, r, outs, x, F', hr _ _ _ q, p⟩
/-- It always gives back the same. -/
theorem SpecR.ret {C : Ctx} {f : FuncId} {ars : List PV} {ins : List HC} {R : Bool → PV → List HC → Prop} {r : PV} {outs : List HC} (h : SpecR C f ars ins R) (hr : ∀ b r' outs', R b r' outs' → b = true ∧ r' = r ∧ outs' = outs) : SpecH C f ars ins r outs := by
  intro w F β vs h1 h2 h3 h4 h5 h6 h7 h8 h9 h10
  refine (h w F β vs h1 h2 h3 h4 h5 h6 h7 h8 h9 h10).mono ?_
  rintro e w' ⟨b, r', outs', x, F', q, rfl, p⟩
  obtain ⟨rfl, rfl, rfl⟩ := hr _ _ _ q
  exact ⟨x, F', rfl, p⟩
theorem SpecH.r {C : Ctx} {f : FuncId} {ars : List PV} {ins : List HC} {r : PV} {outs : List HC} (h : SpecH C f ars ins r outs) : SpecR C f ars ins fun b r' outs' => b = true ∧ r' = r ∧ outs' = outs := by
  intro w F β vs h1 h2 h3 h4 h5 h6 h7 h8 h9 h10
  refine (h w F β vs h1 h2 h3 h4 h5 h6 h7 h8 h9 h10).mono ?_
  rintro e w' ⟨x, F', rfl, p⟩
  exact ⟨true, r, outs, x, F', ⟨rfl, rfl, rfl⟩, rfl, p⟩
section
variable {C : Ctx} {w0 : World} {pb : Nat → Option Nat} {F0 : Nat → Nat → Prop} {hp : Nat → HC} {E : Env}
theorem callR_sound (h : HR C w0 pb F0 hp E) {f : FuncId} {args : List PV} {vs : Array Value} (hr : RepC E args vs) {ids : List Nat} {ars : List PV} {css : List HC} {R : Bool → PV → List HC → Prop} (he : ars.map (ren ids) = args) (hnd : ids.Nodup) (hcl : css.length = ids.length) (hbx : ∀ j, j < ids.length → ids.getD j 0 ≠ 0 ∧ hp (ids.getD j 0) = css.getD j .none)
    (hlfi : ∀ c ∈ css, c.okIn = true) (hpl : ∀ a ∈ ars, a.plain = true ∨ (∃ b off, a = .ptr b off ∧ 0 < b ∧ b ≤ ids.length) ∨ ∃ b, a = .mp b ∧ 0 < b ∧ b ≤ ids.length) (hspec : SpecR C f ars (css.map HC.demI) R)
    (hok : ∀ b r outs, R b r outs → (∀ c ∈ outs, c.okOut = true) ∧ ∀ j, (outs.getD j .none).isBld = true → (css.getD j .none).isBld = true) :
    Calls C.P f vs E.w fun en w' => ∃ b r outs z, R b r outs ∧ en = endE b z ∧ After C w0 pb F0 hp E ⟨r, setAll ids outs, ids⟩ z w' := by
  have hil : (css.map HC.demI).length = ids.length := by simpa using hcl
  let β' : Nat → Option Nat := fun b => if 0 < b ∧ b ≤ ids.length then E.β (ids.getD (b - 1) 0) else none
  have hβ : ∀ b g, β' b = some g → 0 < b ∧ b ≤ ids.length ∧ E.β (ids.getD (b - 1) 0) = some g := fun b g hb => by
    by_cases hc : 0 < b ∧ b ≤ ids.length
    · exact ⟨hc.1, hc.2, (if_pos hc).symm.trans hb⟩
    · have : β' b = none := if_neg hc
      rw [this] at hb; cases hb
  have hβi : ∀ j, j < ids.length → β' (j + 1) = E.β (ids.getD j 0) := fun j hj => by
    have : β' (j + 1) = E.β (ids.getD (j + 1 - 1) 0) := if_pos ⟨by omega, by omega⟩
    rw [this]; rfl
  have hinn : ∀ (β : Nat → Option Nat), E.inn.le ⟨E.w, E.F, β, fun _ => none⟩ := fun β => ⟨fun _ _ h => h, fun _ _ _ => rfl, fun _ _ h => (by cases h), fun _ _ _ h => (by cases h)⟩
  have hatI : ∀ j, j < ids.length → HAt E (ids.getD j 0) (css.getD j .none) ∧ (css.getD j .none).okIn = true := fun j hj => by
    obtain ⟨h0, h1⟩ := hbx j hj
    have := h.o.at_ _ h0
    rw [h1] at this
    have hj' : j < css.length := by omega
    exact ⟨this, hlfi _ (by rw [getD_eq hj']; exact List.getElem_mem hj')⟩
  have hnF : ∀ j g, j < ids.length → E.β (ids.getD j 0) = some g → ∀ i, ¬ E.F g i := fun j g hj hg => by
    obtain ⟨g', e1, e2⟩ := (hatI j hj).1.okIn (hatI j hj).2
    rw [hg] at e1
    injection e1 with e1
    subst e1
    exact e2
  have hβn : ∀ b, b ∉ ids.map id → True := fun _ _ => trivial
  have hbin : ∀ j T e s, (css.map HC.demI).getD j .none = .bld T e s → j < ids.length ∧ hp (ids.getD j 0) = .bld T e s ∧ ids.getD j 0 ≠ 0 := fun j T e s hj => by
    have hjl : j < css.length := by
      rcases Nat.lt_or_ge j css.length with hlt | hge
      · exact hlt
      · rw [show (css.map HC.demI).getD j .none = .none by simp [List.getD, hge]] at hj; cases hj
    have e0 : (css.map HC.demI).getD j .none = (css.getD j .none).demI := by
      rw [getD_eq (by simpa using hjl), getD_eq hjl]; simp
    rw [e0] at hj
    have e1 : css.getD j .none = .bld T e s := by
      generalize css.getD j .none = c at *
      cases c <;> simp [HC.demI] at hj
      simp [hj]
    obtain ⟨h0, h1⟩ := hbx j (by omega)
    exact ⟨by omega, h1.trans e1, h0⟩
  have hbufp : ∀ k, BufIn (css.map HC.demI) E.w β' k → (w0.heap.size ≤ k ∨ pb 0 = some k) ∧ PrivB hp E k := fun k hk => by
    obtain ⟨j, T, e, s, g, v, q1, q2, q3, q4⟩ := hk
    obtain ⟨hj, h1, h0⟩ := hbin j T e s q1
    obtain ⟨g', v', r1, r2, r3⟩ := h.o.bl.at_ _ T e s h0 h1
    rw [hβi j hj, r1] at q2
    injection q2 with q2
    subst q2
    have := q3.v_eq r2
    subst this
    exact r3 k q4
  have hBldIn : BldIn C (css.map HC.demI) E.w E.F β' := by
    refine ⟨fun j T e s hj => ?_, fun j j' T e s T' e' s' hj hj' => ?_⟩
    · obtain ⟨hjl, h1, h0⟩ := hbin j T e s hj
      obtain ⟨g, v, r1, r2, r3⟩ := h.o.bl.at_ _ T e s h0 h1
      refine ⟨g, v, (hβi j hjl).trans r1, r2, fun k hk => ?_⟩
      obtain ⟨q1, q2⟩ := r3 k hk
      refine ⟨?_, q2.1, fun b hb => ?_⟩
      · rcases q1 with q1 | q1
        · exact Nat.le_trans h.b.gsz q1
        · exact (h.b.pbin k ⟨0, q1⟩).1
      · exact q2.2.1 _ (hβ b k hb).2.2
    · obtain ⟨hjl, h1, h0⟩ := hbin j T e s hj
      obtain ⟨hjl', h1', h0'⟩ := hbin j' T' e' s' hj'
      have := h.o.bl.one _ _ T e s T' e' s' h0 h0' h1 h1'
      rw [getD_eq hjl, getD_eq hjl'] at this
      exact (List.getElem_inj hnd).1 this
  clear hβn
  have hargs : RepC ⟨E.w, E.F, β', fun _ => none⟩ ars vs := by
    refine ⟨by rw [← hr.1, ← he, List.length_map], fun i hi => ?_⟩
    have hi' : i < args.length := by rw [← he, List.length_map]; exact hi
    have h1 := hr.2 i hi'
    have e1 : args.getD i .top = ren ids (ars.getD i .top) := by rw [← he]; simp [List.getD, hi]
    rw [e1] at h1
    have hm : ars.getD i .top ∈ ars := by simp only [List.getD, List.getElem?_eq_getElem hi, Option.getD_some]; exact List.getElem_mem hi
    generalize ars.getD i .top = q at *
    rcases hpl q hm with hp1 | ⟨b, off, rfl, hb0, hb1⟩ | ⟨b, rfl, hb0, hb1⟩
    · have : ren ids q = q := by cases q <;> first | rfl | simp [PV.plain] at hp1
      rw [this] at h1
      exact (h1.inn_plain hp1).le (hinn _)
    · generalize vs.getD i undef = x at *
      cases h1 with
      | ptr _ _ g hg => exact .ptr b off g ((if_pos ⟨hb0, hb1⟩).trans hg)
    · generalize vs.getD i undef = x at *
      cases h1 with
      | mp _ g hg => exact .mp b g ((if_pos ⟨hb0, hb1⟩).trans hg)
  have hboxes : BoxesAt ⟨E.w, E.F, β', fun _ => none⟩ (css.map HC.demI) := by
    intro j hj
    rw [hil] at hj
    have hj' : j < css.length := by omega
    obtain ⟨hat, hok⟩ := hatI j hj
    have e0 : (css.map HC.demI).getD j .none = (css.getD j .none).demI := by
      rw [getD_eq (by simpa using hj'), getD_eq hj']; simp
    rw [e0]
    generalize css.getD j .none = c at *
    cases c with
    | cells cs =>
      obtain ⟨g, T, us, e1, e2, e3, e4, e5⟩ := hat
      have hlf := List.all_eq_true.1 hok
      refine ⟨g, T, us, (hβi j hj).trans e1, e2, ⟨by simpa using e3.1, fun i hi => ?_⟩, fun i hi => e4 i (by simpa using hi), e5⟩
      have hi' : i < cs.length := by simpa using hi
      have := e3.2 i hi'
      rw [getD_eq hi'] at this
      rw [getD_eq hi]
      simp only [List.getElem_map]
      exact (this.inn_leaf (hlf _ (List.getElem_mem hi'))).le (hinn _)
    | mp es =>
      obtain ⟨g, ents, ck, e1, e2, e3, e4⟩ := hat
      exact ⟨g, ents, ck, (hβi j hj).trans e1, e2, e3, e4⟩
    | bld T e s =>
      obtain ⟨g, e1, e2⟩ := hat
      exact ⟨g, (hβi j hj).trans e1, e2⟩
    | _ => cases hok
  refine (hspec E.w E.F β' vs h.b.places (Nat.le_trans h.b.gsz h.b.size) (fun g => h.b.glob g) hargs hboxes (fun g i hf => (h.b.Fin g i hf).1) (fun b g i hb => hnF (b - 1) g (by have := hβ b g hb; omega) (hβ b g hb).2.2 i) (fun b g hb => ?_) (fun b b' g hb hb' => ?_) hBldIn).mono ?_
  · obtain ⟨h1, h2, h3⟩ := hβ b g hb
    have hn := h.o.bnew _ g h3
    refine ⟨h1, by omega, ?_, hn.2.1⟩
    rcases hn.2.2 with h4 | h4
    · exact Nat.le_trans h.b.gsz h4
    · exact (h.b.pbin g h4.of).1
  · obtain ⟨h1, h2, h3⟩ := hβ b g hb
    obtain ⟨h4, h5, h6⟩ := hβ b' g hb'
    have := h.o.binj _ _ g h3 h6
    have h7 : b - 1 < ids.length := by omega
    have h8 : b' - 1 < ids.length := by omega
    rw [getD_eq h7, getD_eq h8] at this
    have := (List.getElem_inj hnd).1 this
    omega
  · rintro en w' ⟨b0, r, outs, x, F', hRR, rfl, q1, q2, q3, q4, q5, q6, q7, q8, q9, q10, q11, q12⟩
    obtain ⟨hplo, hbo⟩ := hok _ _ _ hRR
    refine ⟨b0, r, outs, x, hRR, rfl, ⟨w', F', E.β, E.O⟩, rfl, ?_⟩
    have hblock : ∀ k, k < E.w.heap.size → (∀ j, j < ids.length → E.β (ids.getD j 0) ≠ some k) → ¬ BufIn (css.map HC.demI) E.w β' k → w'.heap[k]? = E.w.heap[k]? := fun k hk hn hnb => q5 k hk (fun b hb => by
      obtain ⟨h1, h2, h3⟩ := hβ b k hb
      exact hn (b - 1) (by omega) h3) hnb
    have hle : E.le ⟨w', F', E.β, E.O⟩ := ⟨q6, fun g i hf => World.cell?_of_block (hblock g (h.b.Fin g i hf).1 (fun j hj hb => hnF j g hj hb i hf) fun hb => (hbufp g hb).2.1 i hf), fun _ _ h => h, fun _ v n h => ⟨v, n, h, Nat.le_refl _, fun _ => rfl⟩⟩
    have hback : (⟨w', F', β', fun _ => none⟩ : Env).inn.le ⟨w', F', E.β, E.O⟩ := ⟨fun _ _ h => h, fun _ _ _ => rfl, fun _ _ h => (by cases h), fun _ _ _ h => (by cases h)⟩
    obtain ⟨s1, s2⟩ := applyW_setAll outs ids 0 hp hnd
    have hset : ∀ k, applyW hp (setAll ids outs) k = applyW hp ((ids.zipIdx 0).map fun p => (p.1, outs.getD p.2 .none)) k := fun k => rfl
    have hnz : 0 ∉ ids := fun hm => by
      obtain ⟨j, hj, hj'⟩ := List.mem_iff_getElem.1 hm
      have := (hbx j hj).1
      rw [getD_eq hj] at this
      exact this hj'
    have hio : outs.length = ids.length := by rw [q10]; exact hil
    refine ⟨⟨h.b.next hle q1 q2 q3 q4 (fun k hk hn => hblock k (Nat.lt_of_lt_of_le hk h.b.size) (fun j _ hb => ?_) fun hb => ?_) (fun g i hf => ?_), ?_⟩, hle, ?_⟩
    · rcases (h.o.bnew _ k hb).2.2 with h4 | h4
      · omega
      · exact hn h4.of
    · rcases (hbufp k hb).1 with h4 | h4
      · omega
      · exact hn ⟨0, h4⟩
    · rcases q7 g i hf with h0 | h0
      · exact .inl h0
      · exact .inr ⟨Nat.le_trans h.b.size h0.1, h0.2⟩
    · have hrows : ∀ t n e, applyW hp (setAll ids outs) t = .row n e → t ∉ ids ∧ hp t = .row n e := fun t n e ht => by
        rw [hset] at ht
        by_cases hm : t ∈ ids
        · obtain ⟨j, hj, rfl⟩ := List.mem_iff_getElem.1 hm
          have := s1 j hj
          rw [getD_eq hj, Nat.zero_add] at this
          rw [this] at ht
          have hjo : j < outs.length := by omega
          have hok := hplo (outs.getD j .none) (by rw [getD_eq hjo]; exact List.getElem_mem hjo)
          rw [ht] at hok; cases hok
        · rw [s2 t hm] at ht
          exact ⟨hm, ht⟩
      refine ⟨?_, fun b hb => ?_, fun b g hb => ?_, h.o.binj, fun t n e ht hrow => ?_, ?_⟩
      · obtain ⟨m, n1, n2, n3⟩ := h.o.nx
        refine ⟨m, by rw [hset, s2 0 hnz]; exact n1, n2, fun b hb => ⟨(n3 b hb).1, (n3 b hb).2.1, ?_⟩⟩
        have : b ∉ ids := fun hm => by
          obtain ⟨j, hj, rfl⟩ := List.mem_iff_getElem.1 hm
          have h1 := (hbx j hj).2
          have h2 := (hatI j hj).2
          rw [getD_eq hj] at h1
          rw [← h1, (n3 _ hb).2.2] at h2
          cases h2
        rw [hset, s2 b this]; exact (n3 b hb).2.2
      · rw [hset]
        by_cases hm : b ∈ ids
        · obtain ⟨j, hj, rfl⟩ := List.mem_iff_getElem.1 hm
          have h1 := s1 j hj
          rw [getD_eq hj, Nat.zero_add] at h1
          rw [h1]
          have hjo : j < outs.length := by omega
          have hat := q11 j hjo
          have hok := hplo (outs.getD j .none) (by rw [getD_eq hjo]; exact List.getElem_mem hjo)
          have hb' : E.β ids[j] = β' (j + 1) := by rw [hβi j hj, getD_eq hj]
          generalize outs.getD j .none = c at *
          cases c with
          | cells cs =>
            obtain ⟨g, T, us, e1, e2, e3, e4, e5⟩ := hat
            have hpl1 := List.all_eq_true.1 hok
            refine ⟨g, T, us, hb'.trans e1, e2, ⟨e3.1, fun i hi => ?_⟩, e4, e5⟩
            have := e3.2 i hi
            rw [getD_eq hi] at this ⊢
            exact (this.inn_plain1 (hpl1 _ (List.getElem_mem hi))).le hback
          | mp es =>
            obtain ⟨g, ents, ck, e1, e2, e3, e4⟩ := hat
            exact ⟨g, ents, ck, hb'.trans e1, e2, e3, e4⟩
          | bld T e s =>
            obtain ⟨g, e1, e2⟩ := hat
            exact ⟨g, hb'.trans e1, e2⟩
          | _ => cases hok
        · rw [s2 b hm]
          refine (h.o.at_ b hb).keep hle (fun x => x) fun g hg => ⟨hblock g (h.o.bnew b g hg).2.1 (fun j hj hb' => ?_) fun hb' => (hbufp g hb').2.2.1 b hg, fun i hf => ?_⟩
          · have := h.o.binj _ _ g hg hb'
            rw [this] at hm
            refine hm ?_
            rw [getD_eq hj]
            exact List.getElem_mem hj
          · rcases q7 g i hf with h0 | h0
            · exact h0
            · have := (h.o.bnew b g hg).2.1
              omega
      · have := h.o.bnew b g hb
        exact ⟨this.1, Nat.lt_of_lt_of_le this.2.1 q4, this.2.2⟩
      · obtain ⟨hti, htr⟩ := hrows t n e hrow
        obtain ⟨A, c, e1, e2, e3, e4⟩ := h.o.own t n e ht htr
        refine ⟨A, c, e1, e2, e3, ?_⟩
        rcases e4 with e4 | ⟨g, cur, sz, p1, p2, p3, p4, p5, p6, p7, p8⟩
        · exact .inl e4
        · rcases Nat.lt_or_ge n c with hnc | hnc
          rotate_left
          · exact .inl (by omega)
          refine .inr ⟨g, cur, sz, p1, (hblock g p2.lt (fun j _ hb => p7 _ hb) fun hb => (hbufp g hb).2.2.2 t n e 0 c ht htr (by rw [e1, p1]) hnc).trans p2, p3, p4, p5, fun i hf => ?_, p7, fun t' n' e' o' c' ht' hrow' ho' hc' => p8 t' n' e' o' c' ht' (hrows t' n' e' hrow').2 ho' hc'⟩
          rcases q7 g i hf with h0 | h0
          · exact p6 i h0
          · have := p2.lt
            omega
      · -- the text that is being written
        have hpriv : ∀ k, PrivB hp E k → (∀ i, ¬ F' k i) → PrivB (applyW hp (setAll ids outs)) ⟨w', F', E.β, E.O⟩ k := fun k hp' hf => ⟨hf, hp'.2.1, fun t n e o c ht hr ho hc => hp'.2.2 t n e o c ht (hrows t n e hr).2 ho hc⟩
        have hfresh : ∀ k, E.w.heap.size ≤ k → (∀ i, ¬ F' k i) → PrivB (applyW hp (setAll ids outs)) ⟨w', F', E.β, E.O⟩ k := fun k hk hf => ⟨hf, fun b hb => by have := (h.o.bnew b k hb).2.1; omega, fun t n e o c ht hr ho hc => by
          obtain ⟨A, c2, f1, f2, f3, f4⟩ := h.o.own t n e ht (hrows t n e hr).2
          have ho' : E.O t = some (.slice (some ⟨k, o, none⟩) n c, n) := ho
          rw [ho'] at f1
          injection f1 with f1
          injection f1 with f1
          injection f1 with f1 _ f5
          subst f5
          rcases f4 with f4 | ⟨g', cur', sz', p1, p2, _⟩
          · omega
          · rw [p1] at f1
            injection f1 with f1
            injection f1 with f1
            have := p2.lt
            omega⟩
        have hout : ∀ b T e s, applyW hp (setAll ids outs) b = .bld T e s → b ∈ ids → ∃ j, j < ids.length ∧ b = ids.getD j 0 ∧ outs.getD j .none = .bld T e s ∧ ∃ T' e' s', hp b = .bld T' e' s' := fun b T e s hb hm => by
          obtain ⟨j, hj, rfl⟩ := List.mem_iff_getElem.1 hm
          have h1 := s1 j hj
          rw [getD_eq hj, Nat.zero_add] at h1
          rw [hset, h1] at hb
          have h2 := hbo j (by rw [hb]; rfl)
          have h3 := (hbx j hj).2
          rw [getD_eq hj] at h3
          refine ⟨j, hj, (getD_eq hj 0).symm, hb, ?_⟩
          rw [h3]
          generalize css.getD j .none = c at *
          cases c <;> simp [HC.isBld] at h2
          exact ⟨_, _, _, rfl⟩
        have hbld : ∀ b T e s, b ≠ 0 → applyW hp (setAll ids outs) b = .bld T e s → ∃ T' e' s', hp b = .bld T' e' s' := fun b T e s h0 hb => by
          by_cases hm : b ∈ ids
          · obtain ⟨_, _, _, _, q⟩ := hout b T e s hb hm
            exact q
          · rw [hset, s2 b hm] at hb
            exact ⟨T, e, s, hb⟩
        refine ⟨fun b T e s h0 hb => ?_, fun b b' T e s T' e' s' h0 h0' hb hb' => ?_⟩
        · by_cases hm : b ∈ ids
          · obtain ⟨j, hj, rfl, ho, _⟩ := hout b T e s hb hm
            obtain ⟨g, v, r1, r2, r3⟩ := q12 j T e s ho
            rw [hβi j hj] at r1
            refine ⟨g, v, r1, r2, fun k hk => ?_⟩
            obtain ⟨r4, r5, r6⟩ := r3 k hk
            rcases r4 with r4 | r4
            · exact ⟨.inl (Nat.le_trans h.b.size r4), hfresh k r4 r5⟩
            · exact ⟨(hbufp k r4).1, hpriv k (hbufp k r4).2 r5⟩
          · rw [hset, s2 b hm] at hb
            obtain ⟨g, v, r1, r2, r3⟩ := h.o.bl.at_ b T e s h0 hb
            have hnotin : ∀ k, v.ownBlock = some k → ¬ BufIn (css.map HC.demI) E.w β' k := fun k hk hbf => by
              obtain ⟨j, T', e', s', g', v', p1, p2, p3, p4⟩ := hbf
              obtain ⟨hj, h1, h0'⟩ := hbin j T' e' s' p1
              have := h.o.bl.one _ _ T e s T' e' s' h0 h0' hb h1
              rw [this, getD_eq hj] at hm
              exact hm (List.getElem_mem hj)
            have hgk : w'.heap[g]? = E.w.heap[g]? := hblock g (h.o.bnew b g r1).2.1 (fun j hj hb' => by
              have := h.o.binj _ _ g r1 hb'
              rw [this, getD_eq hj] at hm
              exact hm (List.getElem_mem hj)) fun hbf => (hbufp g hbf).2.2.1 b r1
            have hkk : ∀ k, v.ownBlock = some k → w'.heap[k]? = E.w.heap[k]? := fun k hk => hblock k (r2.lt hk) (fun j hj hb' => (r3 k hk).2.2.1 _ hb') (hnotin k hk)
            refine ⟨g, v, r1, r2.keep hgk hkk, fun k hk => ⟨(r3 k hk).1, hpriv k (r3 k hk).2 fun i hf => ?_⟩⟩
            rcases q7 k i hf with h1 | h1
            · exact (r3 k hk).2.1 i h1
            · have := r2.lt hk; omega
        · obtain ⟨_, _, _, r1⟩ := hbld b T e s h0 hb
          obtain ⟨_, _, _, r2⟩ := hbld b' T' e' s' h0' hb'
          exact h.o.bl.one b b' _ _ _ _ _ _ h0 h0' r1 r2
    · exact (q9.inn_plain q8).le hback
/-- A call that ends by a panic: what is thrown, and what is left of the boxes. -/
inductive vcDie0 (C : Ctx) (f : FuncId) (args : List PV) (hp : Nat → HC) (D : Value → List (Nat × HC) → Prop) : Prop
  | mk (ids : List Nat) (ars : List PV) (css : List HC) (R : Bool → PV → List HC → Prop) (h1 : ars.map (ren ids) = args) (h2 : ids.Nodup) (h3 : css.length = ids.length) (h4 : ∀ j, j < ids.length → ids.getD j 0 ≠ 0 ∧ hp (ids.getD j 0) = css.getD j .none)
      (h5 : ∀ c ∈ css, c.okIn = true) (h7 : ∀ a ∈ ars, a.plain = true ∨ (∃ b off, a = .ptr b off ∧ 0 < b ∧ b ≤ ids.length) ∨ ∃ b, a = .mp b ∧ 0 < b ∧ b ≤ ids.length) (h8 : SpecR C f ars (css.map HC.demI) R)
      (hd : ∀ b r outs, R b r outs → b = false ∧ ((∀ c ∈ outs, c.okOut = true) ∧ ∀ j, (outs.getD j .none).isBld = true → (css.getD j .none).isBld = true) ∧ ∃ x, r = .v x ∧ D x (setAll ids outs)) : vcDie0 C f args hp D
/-- An operation that ends by a panic. -/
def dieOp (C : Ctx) (ρ : Operand → PV) (op : Op) (hp : Nat → HC) (D : Value → List (Nat × HC) → Prop) : Prop :=
  match op with
  | .call c => match c.callee with
    | .value (.func f) => callOk C.P f = true ∧ vcDie0 C f (c.args.toList.map fun a => (ρ a).dem) hp D
    | .value f => match ρ f with
      | .clo f caps => callOk C.P f = true ∧ vcDie0 C f ((c.args.toList.map fun a => (ρ a).dem) ++ caps) hp D
      | _ => False
    | _ => False
  | .panic x => match ρ x with
    | .v (.iface t v) => D (.iface t v) []
    | _ => False
  | _ => False
theorem die0_sound (h : HR C w0 pb F0 hp E) {f : FuncId} {args : List PV} {vs : Array Value} (hr : RepC E args vs) {D : Value → List (Nat × HC) → Prop} (hv : vcDie0 C f args hp D) :
    Calls C.P f vs E.w fun en w' => ∃ z wr E', en = .panicked [{ v := z, recovered := false }] ∧ D z wr ∧ E'.w = w' ∧ HR C w0 pb F0 (applyW hp wr) E' ∧ E.le E' := by
  obtain ⟨ids, ars, css, R, h1, h2, h3, h4, h5, h7, h8, hd⟩ := hv
  refine (callR_sound h hr h1 h2 h3 h4 h5 h7 h8 fun b r outs hR => (hd b r outs hR).2.1).mono ?_
  rintro en w' ⟨b, r, outs, z, hR, rfl, E', rfl, k1, k2, k3⟩
  obtain ⟨rfl, -, y, rfl, hD⟩ := hd b r outs hR
  have e := k3.v_eq
  rw [e]
  exact ⟨y, _, E', rfl, hD, rfl, k1, k2⟩
theorem die_sound (h : HR C w0 pb F0 hp E) {o : Oper} {ρ : Operand → PV} {a : Act} (hr : ∀ x, Rep E (ρ x) (a.eval x)) {D : Value → List (Nat × HC) → Prop} (hv : dieOp C ρ o.op hp D) {next : Act → World → Prop} {Q : Exit → Act → World → Prop}
    (hq : ∀ x wr E', D x wr → HR C w0 pb F0 (applyW hp wr) E' → E.le E' → Q (.panic [{ v := x, recovered := false }]) a E'.w) : o.wp C.P a E.w next Q := by
  unfold dieOp at hv
  split at hv
  · rename_i c ho
    obtain ⟨callee, args, argTypes⟩ := c
    simp only at hv
    split at hv
    · rename_i g
      obtain ⟨hfn, hv⟩ := hv
      unfold callOk at hfn
      split at hfn
      · rename_i fn hf
        simp only [Bool.and_eq_true, Bool.not_eq_true'] at hfn
        obtain ⟨hb, hname⟩ := hfn
        have hargs : RepC E (args.toList.map fun x => (ρ x).dem) (args.map a.eval) := by
          refine ⟨by simp, fun i hi => ?_⟩
          have hi' : i < args.size := by simpa using hi
          have := (hr args[i]).dem
          simpa [List.getD, Array.getD, hi'] using this
        have hrun : (execOp a.eval o).run C.P E.w = .ok (.enter g (args.map a.eval)) E.w := by
          have hbn : ¬ fn.body = none := fun e => by rw [e] at hb; cases hb
          have hn0 : ¬ fn.name = "runtime.NumGoroutine" := by simpa using hname
          simp [execOp, ho, resolve, Act.eval, Deferred.ofValue, invoke, callFunc, hf, hn0, hbn]
        unfold Oper.wp
        rw [hrun]
        refine (die0_sound h hargs hv).mono ?_
        rintro en w' ⟨z, wr, E', rfl, hD, rfl, k1, k2⟩
        exact hq _ _ _ hD k1 k2
      · cases hfn
    · rename_i fo _
      have hfo := hr fo
      split at hv
      · rename_i g caps hclo
        rw [hclo] at hfo
        generalize hax : a.eval fo = ax at *
        cases hfo with
        | clo _ _ cvs hcl hcr =>
          obtain ⟨hfn, hv⟩ := hv
          unfold callOk at hfn
          split at hfn
          · rename_i fn hf
            simp only [Bool.and_eq_true, Bool.not_eq_true'] at hfn
            obtain ⟨hb, hname⟩ := hfn
            have hargs : RepC E ((args.toList.map fun x => (ρ x).dem) ++ caps) (args.map a.eval ++ cvs) := by
              refine ⟨by simp [hcl], fun i hi => ?_⟩
              by_cases hlt : i < args.size
              · have := (hr args[i]).dem
                rw [getD_app_left _ _ _ (by simpa using hlt)]
                have e2 : (args.map a.eval ++ cvs).getD i undef = a.eval args[i] := by
                  simp only [Array.getD_eq_getD_getElem?]
                  rw [Array.getElem?_append_left (by simpa using hlt)]
                  simp [hlt]
                rw [e2]
                simpa [List.getD, hlt] using this
              · have hi' : i - args.size < caps.length := by simp at hi; omega
                have := hcr _ hi'
                rw [getD_app_right _ _ _ (by simp; omega)]
                have e2 : (args.map a.eval ++ cvs).getD i undef = cvs.getD (i - args.size) undef := by
                  simp only [Array.getD_eq_getD_getElem?]
                  rw [Array.getElem?_append_right (by simp; omega)]
                  simp
                rw [e2]
                simpa using this
            have hrun : (execOp a.eval o).run C.P E.w = .ok (.enter g (args.map a.eval ++ cvs)) E.w := by
              have hbn : ¬ fn.body = none := fun e => by rw [e] at hb; cases hb
              have hn0 : ¬ fn.name = "runtime.NumGoroutine" := by simpa using hname
              simp [execOp, ho, resolve, hax, Deferred.ofValue, invoke, callFunc, hf, hn0, hbn]
            unfold Oper.wp
            rw [hrun]
            refine (die0_sound h hargs hv).mono ?_
            rintro en w' ⟨z, wr, E', rfl, hD, rfl, k1, k2⟩
            exact hq _ _ _ hD k1 k2
          · cases hfn
      · exact hv.elim
    · exact hv.elim
  · rename_i x ho
    split at hv
    · rename_i t v hx
      have hx' := hr x
      rw [hx] at hx'
      have hv' := hx'.v_eq
      have hrun : (execOp a.eval o).run C.P E.w = .halt (.panic (.iface t v)) E.w := by
        simp [execOp, ho, hv', Instr.panic, goPanic]
      unfold Oper.wp
      rw [hrun]
      exact hq _ _ E hv h (Env.le.refl E)
    · exact hv.elim
  · exact hv.elim
end
end Go.Proofs.YtddggjmfplohkaaDoor
