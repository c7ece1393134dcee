import Derived.Test.YtddggjmfplohkaaDoorPla
import Derived.Test.YtddggjmfplohkaaDoorPlb
import Derived.Test.YtddggjmfplohkaaDoorPlc
import Derived.Test.YtddggjmfplohkaaDoorVr
import Derived.Recover
import Derived.Test.YtddggjmfplohkaaDoorPb
/- The reader: programs, walked. -/
namespace Go.Proofs.YtddggjmfplohkaaDoor
open Go Go.RowKit
set_option maxHeartbeats 16000000 in
set_option maxRecDepth 100000 in
theorem s_prog (l : List Tk) (e : Int) (hl : l.length ≤ 100000) : SpecRd 22 [] l 0 e (pgO (progE l)) := by
  unfold SpecRd
  refine spec_of_bodyR CX_mixed CU_gpk Tryd.func22 rfl 65 1 (fun c hc => by rw [List.mem_singleton.1 hc]; rfl) rfl rfl ?_
  refine go_ ?_
  refine c_loop (progI l e)
    ⟨_, _, _, _, ?_, ?_, ⟨[], [], l.length + 1, 0, Nat.zero_le _, Nat.zero_le _, Nat.zero_le _, by omega, fun r h => by rw [h]; cases r <;> rfl, rfl, .inl ⟨rfl, rfl, rfl, rfl, rfl⟩⟩⟩ ?_
  · rfl
  · skip
    exact sub_
  rintro k q m h hlen ⟨v, a, f2, j2, hv, ha, hj2, hf2, hout, rfl, hq⟩
  clear hlen
  cases k with
  | zero => exfalso; omega
  | succ f2 =>
    have hout1 := fun r (h : decsE l (f2 + 1) j2 = r) => hout r h
    clear hout
    rcases hq with ⟨rfl, rfl, rfl, rfl, rfl⟩ | ⟨rfl, rfl, rfl, rfl⟩ | ⟨rfl, rfl, rfl, rfl⟩ | ⟨rfl, rfl, rfl⟩ | ⟨rfl, rfl, rfl⟩
    · exact prog_0 l e hl f2 j2 hj2 (by omega) hout1 _ _ (by kernel_rfl) (by kernel_rfl)
    · exact prog_1 l e hl f2 j2 v hv hj2 (by omega) hout1 _ _ (by kernel_rfl) (by kernel_rfl)
    · exact prog_2 l e hl f2 j2 a ha hj2 (by omega) hout1 _ _ (by kernel_rfl) (by kernel_rfl)
    · exact prog_3 l e hl f2 j2 v a hv ha hj2 (by omega) hout1 _ _ (by kernel_rfl) (by kernel_rfl)
    · exact prog_4 l e hl f2 j2 v a hv ha hj2 (by omega) hout1 _ _ (by kernel_rfl) (by kernel_rfl)
end Go.Proofs.YtddggjmfplohkaaDoor

/- Frames with a deferred literal; no program is named here. -/
namespace Go.Proofs.YtddggjmfplohkaaDoor
open Go.RowKit
/-- A literal that captures two variables is made, and deferred. -/
theorem wp_defer2 {P : Program} {id G p q t : Nat} {T1 T2 : TypeId} {p1 p2 : String} {f1 f2 : Array Edge} {Q : Exit → Act → World → Prop} {a : Act} {w : World} (ht : t < a.tmps.size)
    (h : Q .normal { (a.put (some t) (.func (.func G) #[] #[a.eval (.tmp p), a.eval (.tmp q)])) with defers := ⟨.fn (.func G) #[a.eval (.tmp p), a.eval (.tmp q)], #[]⟩ :: a.defers } w) :
    (Code.region id #[⟨some t, .makeFunc (.func G) #[] #[.tmp p, .tmp q], T1, p1, f1, none⟩, ⟨none, .defer ⟨.value (.tmp t), #[], #[]⟩, T2, p2, f2, none⟩] false).wp P Q a w := by
  have hmf : ∀ (fn : Fn) (first cap : Array Value) (w : World), (Instr.makeFunc fn first cap).run P w = .ok (.func fn first cap) w := fun _ _ _ _ => rfl
  refine wp_region ?_
  have e0 : ∀ x : Value, (a.put (some t) x).tmps[t]?.getD undef = x := fun x => by
    simp only [Act.put]
    rw [Array.getElem?_setIfInBounds_self_of_lt ht]
    rfl
  have h1 : (a.put (some t) (.func (.func G) #[] #[a.eval (.tmp p), a.eval (.tmp q)])).eval (.tmp t) = .func (.func G) #[] #[a.eval (.tmp p), a.eval (.tmp q)] := by
    simp only [Act.eval, Array.getD_eq_getD_getElem?]
    exact e0 _
  show wpOps P _ Q [0, 1] a w
  simp only [wpOps]
  simp only [List.getElem?_toArray, List.getElem?_cons_zero, List.getElem?_cons_succ, Region.wanted, if_true, Oper.wp, execOp]
  refine .inl ?_
  simp only [Sem.run_bind, hmf, Result.andThen_ok, Sem.run_pure, List.map_toArray, List.map]
  rw [Oper.upon_value]
  refine .inl ?_
  simp only [resolve, h1, Deferred.ofValue, Sem.run_pure, Result.andThen_ok, List.map_toArray, List.map_nil, Array.append_empty]
  rw [Oper.upon_defer]
  exact h
section
variable {C : Ctx} {w0 : World} {pb : Nat → Option Nat} {F0 : Nat → Nat → Prop} {Ds : List Deferred}
/-- The slots of a caller, behind a call that was walked where it stands. -/
theorem RelS.world {n np : Nat} {σ : List PV} {m : Nat} {h : List (Nat × HC)} {a : Act} {E : Env} (hr : RelS C w0 pb F0 Ds (mkS n np σ m h) a E) (hb : σ.all (PV.bnd m) = true) {m' : Nat} {h' : List (Nat × HC)} {E' : Env} (q1 : HR C w0 pb F0 (mkS 0 0 [] m' h').hp E') (q3 : (E.cut m).le E') : RelS C w0 pb F0 Ds (mkS n np σ m' h') a E' := by
  refine ⟨q1, hr.d, hr.n, hr.np, fun t => ?_⟩
  show Rep E' (σ.getD t .top) _
  by_cases hlt : t < σ.length
  · have h1 := hr.t t
    have hbb := List.all_eq_true.1 hb σ[t] (List.getElem_mem hlt)
    have h2 : Rep E (σ.getD t .top) (a.tmps.getD t undef) := h1
    rw [getD_eq hlt] at h2 ⊢
    exact (h2.cut hbb).le q3
  · rw [show σ.getD t .top = .top by simp [List.getD, hlt]]
    exact .top _
/-- The deferred literal's call where the frame below gives back something: nothing comes of it. -/
def ClosIdle (C : Ctx) (G : FuncId) (bp bq : Nat) : Prop :=
  ∀ (w0 : World) (pb : Nat → Option Nat) (F0 : Nat → Nat → Prop) (E : Env) (m : Nat) (h : List (Nat × HC)) (v1 v2 : Value), HR C w0 pb F0 (mkS 0 0 [] m h).hp E → Rep E (.ptr bp 0) v1 → Rep E (.ptr bq 0) v2 →
    CallsD C.P G #[v1, v2] .returning E.w fun e u' w' => e = .returned (.tuple #[]) ∧ u' = .returning ∧ w' = E.w
/-- .. where it panics: the panic is recovered, and what the literal wrote is said. -/
def ClosPan (C : Ctx) (G : FuncId) (bp bq : Nat) (x : Value) (m : Nat) (h : List (Nat × HC)) (R : Nat → List (Nat × HC) → Prop) : Prop :=
  ∀ (w0 : World) (pb : Nat → Option Nat) (F0 : Nat → Nat → Prop) (E : Env) (v1 v2 : Value), HR C w0 pb F0 (mkS 0 0 [] m h).hp E → Rep E (.ptr bp 0) v1 → Rep E (.ptr bq 0) v2 → (∀ b g, pb b = some g → b < m) →
    CallsD C.P G #[v1, v2] (.panicking [{ v := x, recovered := false }]) E.w fun e u' w' => e = .returned (.tuple #[]) ∧ u' = .panicking [{ v := x, recovered := true }] ∧ ∃ m' h' E', E'.w = w' ∧ HR C w0 pb F0 (mkS 0 0 [] m' h').hp E' ∧ (E.cut m).le E' ∧ R m' h'
/-- The slots in which the named results lie are what they were. -/
def PanEnd (C : Ctx) (fn : Func) (G : FuncId) (bp bq n np m0 : Nat) (R : PV → Nat → List (Nat × HC) → Prop) : Exit → XK := fun e σ m h => match e with
  | .normal | .ret => m0 ≤ m ∧ resAll C (mkS n np σ m h) fn.results.toList fun ps => R (one ps) m h
  | .panic ch => ∃ x l hb, ch = [{ v := x, recovered := false }] ∧ l.length = n ∧ Sub (mkS n np σ m h) l m hb ∧ l.all (PV.bnd m) = true ∧ m0 ≤ m ∧ ClosPan C G bp bq x m hb fun m3 h3 => resAll C (mkS n np l m3 h3) fn.results.toList fun ps => R (one ps) m3 h3
  | _ => False
/-- Where the literal is deferred. -/
def DefAt (C : Ctx) (fn : Func) (b : Code) (G : FuncId) (p q t bp bq n m0 : Nat) (R : PV → Nat → List (Nat × HC) → Prop) (np : Nat) : Exit → XK := fun e σ m h => match e with
  | .normal => m0 ≤ m ∧ bp < m ∧ bq < m ∧ σ.getD p .top = .ptr bp 0 ∧ σ.getD q .top = .ptr bq 0 ∧ setL σ t .top fun σ' => vcCL C n (m - 1) b (PanEnd C fn G bp bq n (m - 1) m R) σ' m h
  | .ret => resAll C (mkS n np σ m h) fn.results.toList fun ps => R (one ps) m h
  | _ => False
theorem ClosPan.mono {C : Ctx} {G : FuncId} {bp bq : Nat} {x : Value} {m : Nat} {h : List (Nat × HC)} {R R' : Nat → List (Nat × HC) → Prop} (hc : ClosPan C G bp bq x m h R) (hr : ∀ m h, R m h → R' m h) : ClosPan C G bp bq x m h R' := by
  intro w0 pb F0 E v1 v2 h1 h2 h3 h4
  refine (hc w0 pb F0 E v1 v2 h1 h2 h3 h4).mono ?_
  rintro e u' w' ⟨q1, q2, m', h', E', q3, q4, q5, q6⟩
  exact ⟨q1, q2, m', h', E', q3, q4, q5, hr _ _ q6⟩
/-- A body that defers a literal, which captures the named results: a call that is walked where it stands. -/
theorem specI_defer (hm : C.P.follows .mixedOrders = true) {f : FuncId} {fn : Func} {x y z b : Code} {id G p q t : Nat} {T1 T2 : TypeId} {p1 p2 : String} {f1 f2 : Array Edge} (hf : C.P.funcs[f]? = some fn)
    (hb : fn.body = some (x.seq (y.seq (z.seq ((Code.region id #[⟨some t, .makeFunc (.func G) #[] #[.tmp p, .tmp q], T1, p1, f1, none⟩, ⟨none, .defer ⟨.value (.tmp t), #[], #[]⟩, T2, p2, f2, none⟩] false).seq b)))))
    {args : List PV} {m : Nat} {h : List (Nat × HC)} {R : PV → Nat → List (Nat × HC) → Prop} (n : Nat) (hn : args.length + (fn.ntmps - args.length) = n) (h0 : 0 < m) (bp bq : Nat) (ht : t < n) (hg : callOk C.P G = true) (hid : ClosIdle C G bp bq)
    (hv : vcCL C n (m - 1) x (thenL C n (m - 1) y (thenL C n (m - 1) z (DefAt C fn b G p q t bp bq n m R (m - 1)))) (args ++ List.replicate (n - args.length) .top) m h) : SpecI C f args m h R := by
  intro w0 pb F0 E vs hR ha hpb
  refine calls_of_wp_defers hf hb ?_
  have hlen : args.length = vs.size := ha.1
  have hl : (args ++ List.replicate (n - args.length) PV.top).length = n := by
    rw [List.length_append, List.length_replicate]; omega
  have hrel : RelS C w0 pb F0 [] (mkS n (m - 1) (args ++ List.replicate (n - args.length) .top) m h) { tmps := vs ++ Array.replicate (fn.ntmps - vs.size) undef, defers := [] } E := by
    refine ⟨hR, rfl, ?_, fun b g hb => ?_, fun t => ?_⟩
    · show (vs ++ Array.replicate (fn.ntmps - vs.size) undef).size = n
      rw [← hn]; simp [hlen]
    · have := hpb b g hb
      show b ≤ m - 1
      omega
    · show Rep E ((args ++ List.replicate (n - args.length) PV.top).getD t .top) _
      by_cases ht : t < args.length
      · have := ha.2 t ht
        have ht' : t < vs.size := by omega
        have e : (vs ++ Array.replicate (fn.ntmps - vs.size) undef).getD t undef = vs.getD t undef := by
          simp only [Array.getD_eq_getD_getElem?]
          rw [Array.getElem?_append_left ht']
        rw [e, getD_app_left _ _ _ ht]; exact this
      · rw [getD_app_right _ _ _ (by omega)]
        have : (List.replicate (n - args.length) PV.top).getD (t - args.length) .top = .top := by
          simp only [List.getD, List.getElem?_replicate]
          split <;> rfl
        rw [this]
        exact .top _
  have fin : ∀ (Ds : List Deferred) (np : Nat) (σ : List PV) (m2 : Nat) (h2 : List (Nat × HC)) (a2 : Act) (E2 : Env), RelS C w0 pb F0 Ds (mkS n np σ m2 h2) a2 E2 → (E.cut m).le E2 → (resAll C (mkS n np σ m2 h2) fn.results.toList fun ps => R (one ps) m2 h2) →
      ∃ v, (results fn a2.tmps).run C.P E2.w = .ok v E2.w ∧ ∃ z p m' h' E', Ending.returned v = .returned z ∧ E'.w = E2.w ∧ HR C w0 pb F0 (mkS 0 0 [] m' h').hp E' ∧ Rep E' p z ∧ (E.cut m).le E' ∧ R p m' h' := fun Ds np σ m2 h2 a2 E2 hr2 hle2 hq => by
    obtain ⟨ps, v, h1, h2, h3⟩ := results_sound hr2 hq
    exact ⟨v, h1, v, one ps, _, _, E2, rfl, rfl, hr2.h, h2, hle2, h3⟩
  have hret : ∀ (σ : List PV) (m2 : Nat) (h2 : List (Nat × HC)) (a2 : Act) (E2 : Env), RelS C w0 pb F0 [] (mkS n (m - 1) σ m2 h2) a2 E2 → (E.cut (m - 1 + 1)).le E2 → (resAll C (mkS n (m - 1) σ m2 h2) fn.results.toList fun ps => R (one ps) m2 h2) →
      bodyPostD C.P fn (fun e w' => ∃ z p m' h' E', e = .returned z ∧ E'.w = w' ∧ HR C w0 pb F0 (mkS 0 0 [] m' h').hp E' ∧ Rep E' p z ∧ (E.cut m).le E' ∧ R p m' h') .ret a2 E2.w := fun σ m2 h2 a2 E2 hr2 hle2 hq => by
    rw [Nat.sub_add_cancel h0] at hle2
    show Leaves _ _ _ _ a2.defers _ _
    rw [hr2.d]
    exact fin _ _ _ _ _ _ _ hr2 hle2 hq
  refine wp_seq (wp_mono (codeL_sound hm n (m - 1) E x _ _ _ _ _ E hv hl hrel (Env.cut_self E _)) fun e a' w' hq => ?_)
  obtain ⟨σ1, m1, h1, E1, rfl, hl1, hr1, hle1, hq⟩ := hq
  cases e with
  | ret => exact hret _ _ _ _ _ hr1 hle1 hq
  | normal =>
    refine wp_seq (wp_mono (codeL_sound hm n (m - 1) E y _ _ _ _ _ E1 hq hl1 hr1 hle1) fun e a' w' hq => ?_)
    obtain ⟨σ1, m1, h1, E1, rfl, hl1, hr1, hle1, hq⟩ := hq
    cases e with
    | ret => exact hret _ _ _ _ _ hr1 hle1 hq
    | normal =>
      refine wp_seq (wp_mono (codeL_sound hm n (m - 1) E z _ _ _ _ _ E1 hq hl1 hr1 hle1) fun e a' w' hq => ?_)
      obtain ⟨σ1, m1, h1, E1, rfl, hl1, hr1, hle1, hq⟩ := hq
      cases e with
      | ret => exact hret _ _ _ _ _ hr1 hle1 hq
      | normal =>
        obtain ⟨hmm, hbp, hbq, hsp, hsq, hv⟩ := hq
        have hv := setL_spec _ _ _ _ hv
        rw [Nat.sub_add_cancel h0] at hle1
        have hta : t < a'.tmps.size := by rw [hr1.n]; exact ht
        have rp : Rep E1 (.ptr bp 0) (a'.eval (.tmp p)) := by
          have := hr1.ev (.tmp p)
          have e : C.ev (mkS n (m - 1) σ1 m1 h1) (.tmp p) = .ptr bp 0 := hsp
          rw [e] at this
          exact this
        have rq : Rep E1 (.ptr bq 0) (a'.eval (.tmp q)) := by
          have := hr1.ev (.tmp q)
          have e : C.ev (mkS n (m - 1) σ1 m1 h1) (.tmp q) = .ptr bq 0 := hsq
          rw [e] at this
          exact this
        refine wp_seq (wp_defer2 hta ?_)
        show b.wp C.P _ _ E1.w
        generalize a'.eval (.tmp p) = v1 at rp
        generalize a'.eval (.tmp q) = v2 at rq
        have hm1 : 0 < m1 := by omega
        have hr2 : RelS C w0 pb F0 [⟨.fn (.func G) #[v1, v2], #[]⟩] (mkS n (m1 - 1) (σ1.set t .top) m1 h1) { (a'.put (some t) (.func (.func G) #[] #[v1, v2])) with defers := ⟨.fn (.func G) #[v1, v2], #[]⟩ :: a'.defers } E1 := by
          refine ⟨hr1.h, ?_, ?_, fun b g hb => ?_, fun t' => ?_⟩
          · show ⟨.fn (.func G) #[v1, v2], #[]⟩ :: a'.defers = _
            rw [hr1.d]
          · show (a'.tmps.setIfInBounds t _).size = n
            rw [Array.size_setIfInBounds]
            exact hr1.n
          · have := hpb b g hb
            show b ≤ m1 - 1
            omega
          · show Rep E1 ((σ1.set t .top).getD t' .top) ((a'.tmps.setIfInBounds t _).getD t' undef)
            by_cases e : t = t'
            · subst e
              have e2 : (σ1.set t PV.top).getD t .top = .top := by simp [List.getD, hl1, ht]
              rw [e2]
              exact .top _
            · have e2 : (σ1.set t PV.top).getD t' .top = σ1.getD t' .top := by simp [List.getD, e]
              have e3 : (a'.tmps.setIfInBounds t (.func (.func G) #[] #[v1, v2])).getD t' undef = a'.tmps.getD t' undef := by
                simp only [Array.getD_eq_getD_getElem?]
                rw [Array.getElem?_setIfInBounds_ne e]
              rw [e2, e3]
              exact hr1.t t'
        refine wp_mono (codeL_sound hm n (m1 - 1) E1 b _ _ _ _ _ E1 hv (by rw [List.length_set]; exact hl1) hr2 (Env.cut_self E1 _)) fun e a2 w' hq => ?_
        obtain ⟨σ2, m2, h2, E2, rfl, hl2, hr3, hle2, hq⟩ := hq
        rw [Nat.sub_add_cancel hm1] at hle2
        have hle : (E.cut m).le E2 := (Env.cut_le hle1 hmm).trans hle2
        have rp2 : Rep E2 (.ptr bp 0) v1 := (rp.cut (by show Nat.blt bp m1 = true; exact Nat.blt_eq ▸ hbp)).le hle2
        have rq2 : Rep E2 (.ptr bq 0) v2 := (rq.cut (by show Nat.blt bq m1 = true; exact Nat.blt_eq ▸ hbq)).le hle2
        have hinv : ∀ w : World, (invoke (.fn (.func G) #[v1, v2]) #[]).run C.P w = .ok (.enter G #[v1, v2]) w := fun w => by
          unfold callOk at hg
          split at hg
          · rename_i fn' hf'
            simp only [Bool.and_eq_true, Bool.not_eq_true'] at hg
            obtain ⟨hb', hname⟩ := hg
            have hbn : ¬ fn'.body = none := fun e => by rw [e] at hb'; cases hb'
            have hn0 : ¬ fn'.name = "runtime.NumGoroutine" := by simpa using hname
            simp [invoke, callFunc, hf', hn0, hbn]
          · cases hg
        have hnorm : (m1 ≤ m2 ∧ resAll C (mkS n (m1 - 1) σ2 m2 h2) fn.results.toList fun ps => R (one ps) m2 h2) → bodyPostD C.P fn (fun e w' => ∃ z p m' h' E', e = .returned z ∧ E'.w = w' ∧ HR C w0 pb F0 (mkS 0 0 [] m' h').hp E' ∧ Rep E' p z ∧ (E.cut m).le E' ∧ R p m' h') .ret a2 E2.w := fun hq => by
          show Leaves _ _ _ _ a2.defers _ _
          rw [hr3.d]
          refine leaves_cons (by simp) (hinv _) ?_
          refine (hid w0 pb F0 E2 m2 h2 v1 v2 hr3.h rp2 rq2).mono ?_
          rintro e u' w' ⟨rfl, rfl, rfl⟩
          show Leaves _ _ _ _ [] .returning _
          exact fin _ _ _ _ _ _ _ hr3 hle hq.2
        cases e with
        | normal => exact hnorm hq
        | ret => exact hnorm hq
        | panic ch =>
          obtain ⟨x, l, hb', rfl, hll, hsub, hbnd, hm12, hpan⟩ := hq
          show Leaves _ _ _ _ a2.defers _ _
          rw [hr3.d]
          refine leaves_cons (by simp) (hinv _) ?_
          have hr4 := hr3.sub hsub
          have hlt2 := sub_lt hsub
          refine (hpan w0 pb F0 (E2.cut m2) v1 v2 hr4.h (rp2.cut (by show Nat.blt bp m2 = true; exact Nat.blt_eq ▸ (by omega))) (rq2.cut (by show Nat.blt bq m2 = true; exact Nat.blt_eq ▸ (by omega))) (fun b g hb => by have := hpb b g hb; omega)).mono ?_
          rintro e u' w' ⟨rfl, rfl, m3, h3, E3, rfl, q1, q2, q3⟩
          show Leaves _ _ _ _ [] .returning _
          have e1 : (E.cut m).le (E2.cut m2) := Env.cut_le hle (by omega)
          have e2 : (E.cut m).le ((E2.cut m2).cut m2) := Env.cut_le e1 (by omega)
          exact fin _ _ _ _ _ _ _ (hr4.world hbnd q1 q2) (e2.trans q2) q3
        | _ => exact hq.elim
      | _ => exact hq.elim
    | _ => exact hq.elim
  | _ => exact hq.elim
end
end Go.Proofs.YtddggjmfplohkaaDoor

/- The reader's frame: its deferred literal. -/
namespace Go.Proofs.YtddggjmfplohkaaDoor
open Go Go.RowKit
theorem clos_idle : ClosIdle (Ctx.mk Tryd.prog globU 7 LaidU) 40 3 4 := by
  intro w0 pb F0 E m h v1 v2 hR r1 r2
  refine callsD_of_wpS Tryd.func40 rfl fun c₀ cs hu => ?_
  apply wpS_seq
  apply wpS_region
  simp [wpOpsS, go_sem, recoverD, hu, Exit.thenS]
  refine wpS_of_wp ?_
  go_wp2
  cases c₀
  simp_all [bodyPostS, results, Tryd.results40]
set_option maxHeartbeats 4000000 in
set_option maxRecDepth 100000 in
theorem clos_pan (a x y : Int) (c1 c2 : List PV) : ClosPan (Ctx.mk Tryd.prog globU 7 LaidU) 40 3 4 (wrongV a) 6 [(1, .cells c1), (2, .cells c2), (3, .cells [.v (.int .i64 x)]), (4, .cells [.v (.int .i64 y)])] (fun m3 h3 => m3 = 7 ∧ h3 = [(1, .cells c1), (2, .cells c2), (3, .cells [.v (.int .i64 a)]), (4, .cells [.v (.int .i64 3)]), (6, .cells [.v (.int .i64 a)])]) := by
  intro w0 pb F0 E v1 v2 hR r1 r2 hpb
  have hta : ∀ w : World, (Instr.typeAssert (.iface 87 (.agg #[.int .i64 a])) 20 87 true).run Tryd.prog w = .ok (.tuple #[.agg #[.int .i64 a], .bool true]) w := fun w => by
    simp [Instr.typeAssert, go_sem]
  refine callsD_of_wpS Tryd.func40 rfl fun c₀ cs hu => ?_
  have e0 : (#[v1, v2] ++ Array.replicate ((Tryd.f40).ntmps - (#[v1, v2] : Array Value).size) undef : Array Value) = #[v1, v2, undef, undef, undef, undef, undef, undef, undef, undef, undef, undef, undef] := by kernel_rfl
  rw [e0]
  apply wpS_seq
  apply wpS_region
  simp [wpOpsS, go_sem, recoverD, hu, Exit.thenS, wrongV]
  refine wpS_of_wp (wp_block (wp_seq ?_))
  refine wp_region ?_
  simp [wpOps, go_sem, Region.wanted, Oper.wp, execOp]
  refine .inl (wp_cond_false (by simp [Act.eval]) (wp_seq (wp_region ?_)))
  simp [wpOps, go_sem, Region.wanted, Oper.wp, execOp, hta]
  refine .inl (.inl (.inl (wp_cond_true (by simp [Act.eval]) ?_)))
  let σ : List PV := [.ptr 3 0, .ptr 4 0] ++ List.replicate 8 .top ++ [.agg [.v (.int .i64 a)], .top, .top]
  have hrel : RelS (Ctx.mk Tryd.prog globU 7 LaidU) w0 pb F0 [] (mkS 13 5 σ 6 [(1, .cells c1), (2, .cells c2), (3, .cells [.v (.int .i64 x)]), (4, .cells [.v (.int .i64 y)])]) { tmps := #[v1, v2, undef, undef, undef, wrongV a, undef, .bool false, .tuple #[.agg #[.int .i64 a], .bool true], .bool true, .agg #[.int .i64 a], undef, undef], defers := [] } E := by
    refine ⟨hR, rfl, rfl, fun b g hb => by have := hpb b g hb; show b ≤ 5; omega, fun t => ?_⟩
    match t with
    | 0 => exact r1
    | 1 => exact r2
    | 2 => exact .top _
    | 3 => exact .top _
    | 4 => exact .top _
    | 5 => exact .top _
    | 6 => exact .top _
    | 7 => exact .top _
    | 8 => exact .top _
    | 9 => exact .top _
    | 10 =>
      refine Rep.agg [.v (.int .i64 a)] #[.int .i64 a] rfl fun i hi => ?_
      match i, hi with
      | 0, _ => exact .v _
    | 11 => exact .top _
    | 12 => exact .top _
    | t + 13 => exact .top _
  refine wp_mono (codeL_sound (Q := fun e _ m h => e = .normal ∧ m = 7 ∧ h = [(1, .cells c1), (2, .cells c2), (3, .cells [.v (.int .i64 a)]), (4, .cells [.v (.int .i64 3)]), (6, .cells [.v (.int .i64 a)])]) CX_mixed 13 5 E _ _ _ _ _ E ?_ rfl hrel (Env.cut_self E _)) ?_
  · skip
    refine go_ ?_
    exact ⟨rfl, rfl, rfl⟩
  · rintro e a' w' ⟨σ', m', h', E', rfl, hl', hr', hle, rfl, rfl, rfl⟩
    refine ⟨hr'.d, _, rfl, .tuple #[], ?_, rfl, rfl, _, _, E', rfl, hr'.h, hle, rfl, rfl⟩
    simp [results, Tryd.results40]
end Go.Proofs.YtddggjmfplohkaaDoor
