import Derived.Test.YtddggjmfplohkaaDoorTt
/- Whether two programs are the same. -/
namespace Go.Proofs.YtddggjmfplohkaaDoor
open Go.RowKit
set_option linter.unnecessarySimpa false
def arV (a : Ar) : Array Value := #[.string a.name, .int .i64 a.size]
theorem arC_flat (a : Ar) : (PV.agg (arC a)).flat = some (.agg (arV a)) := rfl
theorem ar_eq {a b : Ar} : a = b ↔ (a.name = b.name ∧ a.size = b.size) := by
  constructor
  · rintro rfl; exact ⟨rfl, rfl⟩
  · obtain ⟨n, s⟩ := a
    obtain ⟨n', s'⟩ := b
    rintro ⟨h1, h2⟩
    simp only at h1 h2
    subst h1 h2
    rfl
theorem eqin_A (a b : Ar) (w : World) : (Op.equalIn 10000 50 (.agg (arV a)) (.agg (arV b))).run Tryd.prog w = .ok (eqB a b) w := by
  rw [run_equalIn_struct w 9999 50 _ _ (by kernel_rfl) (by kernel_rfl)]
  have p0 : ∀ w, (isAgg 3).run Tryd.prog w = .ok false w := fun _ => by kernel_rfl
  have p1 : ∀ w, (isAgg 9).run Tryd.prog w = .ok false w := fun _ => by kernel_rfl
  have hi : ∀ (a b : Int) w, (Op.equalIn 9999 3 (.int .i64 a) (.int .i64 b)).run Tryd.prog w = .ok (a == b) w := fun a b w => run_equalIn_int w 9998 3 .i64 .i64 a b Tryd.underlying3
  have hs : ∀ (a b : ByteArray) w, (Op.equalIn 9999 9 (.string a) (.string b)).run Tryd.prog w = .ok (decide (a = b)) w := fun a b w => by
    rw [show (9999 : Nat) = 9998 + 1 from rfl]
    unfold Op.equalIn
    simp only [Sem.run_bind, run_underlying Tryd.underlying9, Result.andThen_ok]
    show (pure (a == b) : Sem Bool).run Tryd.prog w = _
    rw [Sem.run_pure]
    congr 1
    obtain ⟨x⟩ := a
    obtain ⟨y⟩ := b
    show (x == y) = decide ((⟨x⟩ : ByteArray) = ⟨y⟩)
    by_cases h : x = y <;> simp [h]
  obtain ⟨n, s⟩ := a
  obtain ⟨n', s'⟩ := b
  simp only [Program.fieldsOf, Tryd.underlying50]
  simp [Op.eqFields, part, p0, p1, hi, hs, arV]
  by_cases hn : n = n' <;> by_cases hz : s = s' <;> simp [eqB, ar_eq, hn, hz]
theorem eq_A (a b : Ar) : EqSpec Tryd.prog 50 (.agg (arV a)) (.agg (arV b)) (eqB a b) := fun o o' w => ⟨by kernel_rfl, by kernel_rfl, eqin_A a b w⟩
theorem pg_inj {v v' : List ByteArray} {a a' : List Ar} {f f' : List Fu} : (Pg.mk v a f = .mk v' a' f') ↔ (v = v' ∧ a = a' ∧ f = f') := by
  constructor
  · intro h; cases h; exact ⟨rfl, rfl, rfl⟩
  · rintro ⟨rfl, rfl, rfl⟩; rfl
theorem fu_inj {n n' : ByteArray} {p p' l l' : List ByteArray} {w w' : Bool} {b b' : List Sm} : (Fu.mk n p l w b = .mk n' p' l' w' b') ↔ (n = n' ∧ w = w' ∧ p = p' ∧ l = l' ∧ b = b') := by
  constructor
  · intro h; cases h; exact ⟨rfl, rfl, rfl, rfl, rfl⟩
  · rintro ⟨rfl, rfl, rfl, rfl, rfl⟩; rfl
theorem map_len {α β : Type} {f : α → β} (l : List α) : (l.map f).length = l.length := List.length_map _
set_option maxHeartbeats 16000000 in
set_option maxRecDepth 100000 in
theorem s_same (p q : Pg) (hp : OkP p) (hq : OkP q) : Spec (Ctx.mk Tryd.prog globT 7 LaidT) 7 [.agg (pgC p), .agg (pgC q)] [] (.v (.bool (eqB p q))) [] := by
  obtain ⟨pv, pa, pf⟩ := p
  obtain ⟨qv, qa, qf⟩ := q
  have hv := s_sameTexts pv qv hp.vars
  have hal : pa.length ≤ 1000000 := hp.arrs
  have hfl : pf.length ≤ 1000000 := hp.funs
  have hfn : ∀ f ∈ pf, f.params.length ≤ 1000000 ∧ f.locals.length ≤ 1000000 ∧ f.body.length ≤ 1000000 ∧ ∃ d, d ≤ 900 ∧ ∀ x ∈ f.body, okS d x := hp.fn
  have hne : ∀ (h : ¬ (pv = qv ∧ pa = qa ∧ pf = qf)), eqB (Pg.mk pv pa pf) (Pg.mk qv qa qf) = false := fun h => eqB_f (by rw [ne_eq, pg_inj]; exact h)
  clear hp hq
  refine spec_of_bodyL CX_mixed CX_gpk Tryd.func7 rfl 98 0 rfl rfl rfl rfl ?_
  refine go_ ?_
  with_reducible apply run_y
  exact want_
  · intro K hK
    refine ev_ ?_
    refine vcCall_plain (hv) (by kernel_rfl) ?_
    refine ev_ ?_
    exact hK
  refine go_ ?_
  clear hv
  by_cases h1 : pv = qv
  · have g1 : (!eqB pv qv) = false := by rw [eqB_t h1]; rfl
    by_cases h2 : pa.length = qa.length
    · have g2 : (bif !eqB pv qv then true else ((pa.map arC).length : Int) != ((qa.map arC).length : Int)) = false := by rw [g1, map_len, map_len, h2]; simp
      by_cases h3 : pf.length = qf.length
      · have g3 : (bif (bif !eqB pv qv then true else ((pa.map arC).length : Int) != ((qa.map arC).length : Int)) then true else ((pf.map fuC).length : Int) != ((qf.map fuC).length : Int)) = false := by rw [g2, map_len, map_len, h3]; simp
        refine go_ ?_
        clear g1 g2 g3
        refine c_loop (fun k q m h => ∃ j : Nat, j ≤ pa.length ∧ pa.take j = qa.take j ∧ k = pa.length - j ∧ q = [.top, .top, .ptr 1 0, .ptr 2 0] ++ List.replicate 31 .top ++ [.sl .any (pa.map arC), .v (.int .i64 ((pa.map arC).length : Int)), .v (.int .i64 (j : Int))] ++ List.replicate 60 .top ∧ m = 3 ∧ h = [(1, .cells (pgC ⟨pv, pa, pf⟩)), (2, .cells (pgC ⟨qv, qa, qf⟩))])
          ⟨_, _, _, _, ?_, ?_, ⟨0, Nat.zero_le _, rfl, rfl, rfl, rfl, rfl⟩⟩ ?_
        · rfl
        · skip
          exact sub_
        rintro k q m h hlen ⟨j, hj, ht, rfl, rfl, rfl, rfl⟩
        clear hlen
        refine go_ ?_
        first | refine run_b rfl rfl rfl (fun hb => ?_) (fun hb => ?_) | refine c_cond rfl (fun hb => ?_) (fun hb => ?_)
        · have hj' : j < pa.length := by have := of_decide_eq_true hb; rw [map_len] at this; omega
          have hj2 : j < qa.length := by omega
          have hw2 : IntKind.i64.wrap ((j : Int) + 1) = ((j + 1 : Nat) : Int) := by rw [wrap64 (by omega) (by omega)]; omega
          have hat := arC_at hj'
          have hat2 := arC_at hj2
          have hnj := fun he => ne_at hj' hj2 he
          have hte := fun he => take_eq ht hj' hj2 he
          generalize pa[j] = e at *
          generalize qa[j] = e' at *
          obtain ⟨an, az⟩ := e
          obtain ⟨an', az'⟩ := e'
          refine go_ ?_
          with_reducible apply run_y
          exact want_
          · intro K hK
            refine ev_ ?_
            refine ⟨j, _, rfl, hat, rfl, ?_⟩
            refine ev_ ?_
            exact hK
          refine go_ ?_
          with_reducible apply run_y
          exact want_
          · intro K hK
            refine ev_ ?_
            refine ⟨j, _, rfl, hat2, rfl, ?_⟩
            refine ev_ ?_
            exact hK
          refine go_ ?_
          with_reducible apply run_y
          exact want_
          · intro K hK
            refine ev_ ?_
            refine ⟨_, _, _, arC_flat ⟨an, az⟩, arC_flat ⟨an', az'⟩, eq_A _ _, ?_⟩
            refine ev_ ?_
            exact hK
          by_cases he : (⟨an, az⟩ : Ar) = ⟨an', az'⟩
          · have ge : (!eqB (⟨an, az⟩ : Ar) ⟨an', az'⟩) = false := by rw [eqB_t he]; rfl
            refine go_ ?_
            rw [hw2]
            refine c_round ⟨_, _, _, _, ?_, ?_, ?_, ⟨j + 1, by omega, hte he, rfl, rfl, rfl, rfl⟩⟩
            · omega
            · rfl
            · skip
              exact sub_
          · have ge : (!eqB (⟨an, az⟩ : Ar) ⟨an', az'⟩) = true := by rw [eqB_f he]; rfl
            refine go_ ?_
            refine ev_ ?_
            exact .mk (vb_eq (by rw [hne (fun e => hnj he e.2.1)])) trivial
        have hj' : j = pa.length := by have := of_decide_eq_false hb; rw [map_len] at this; omega
        subst hj'
        have hpa : pa = qa := all_eq h2 ht
        clear ht hb hj h2
        refine go_ ?_
        refine c_loop (fun k q m h => ∃ j : Nat, j ≤ pf.length ∧ pf.take j = qf.take j ∧ k = pf.length - j ∧ q = [.top, .top, .top, .ptr 2 0] ++ List.replicate 47 .top ++ [.sl .any (pf.map fuC), .v (.int .i64 ((pf.map fuC).length : Int)), .v (.int .i64 (j : Int))] ++ List.replicate 44 .top ∧ m = 3 ∧ h = [(2, .cells (pgC ⟨qv, qa, qf⟩))])
          ⟨_, _, _, _, ?_, ?_, ⟨0, Nat.zero_le _, rfl, rfl, rfl, rfl, rfl⟩⟩ ?_
        · rfl
        · skip
          exact sub_
        rintro k q m h hlen ⟨j, hj, ht, rfl, rfl, rfl, rfl⟩
        clear hlen
        refine go_ ?_
        first | refine run_b rfl rfl rfl (fun hb => ?_) (fun hb => ?_) | refine c_cond rfl (fun hb => ?_) (fun hb => ?_)
        · have hj' : j < pf.length := by have := of_decide_eq_true hb; rw [map_len] at this; omega
          have hj2 : j < qf.length := by omega
          have hw2 : IntKind.i64.wrap ((j : Int) + 1) = ((j + 1 : Nat) : Int) := by rw [wrap64 (by omega) (by omega)]; omega
          have hat := fuC_at hj'
          have hat2 := fuC_at hj2
          have hnj := fun he => ne_at hj' hj2 he
          have hte := fun he => take_eq ht hj' hj2 he
          obtain ⟨hf1, hf2, hf3, d, hd, hf4⟩ := hfn _ (List.getElem_mem hj')
          generalize pf[j] = e at *
          generalize qf[j] = e' at *
          obtain ⟨fn, fp, fl, fw, fb⟩ := e
          obtain ⟨fn', fp', fl', fw', fb'⟩ := e'
          rw [ne_eq, fu_inj] at hnj
          rw [fu_inj] at hte
          have hP := s_sameTexts fp fp' hf1
          have hL := s_sameTexts fl fl' hf2
          have hB := tellsS_ok d fb hf3 hf4 fb'
          refine go_ ?_
          with_reducible apply run_y
          exact want_
          · intro K hK
            refine ev_ ?_
            refine ⟨j, _, rfl, hat, rfl, ?_⟩
            refine ev_ ?_
            exact hK
          refine go_ ?_
          with_reducible apply run_y
          exact want_
          · intro K hK
            refine ev_ ?_
            refine ⟨j, _, rfl, hat2, rfl, ?_⟩
            refine ev_ ?_
            exact hK
          by_cases k1 : fn = fn'
          · have q1 : (!decide (fn = fn')) = false := by simpa using k1
            by_cases k2 : fw = fw'
            · have q2 : (bif !decide (fn = fn') then true else fw != fw') = false := by rw [q1, k2]; simp
              refine go_ ?_
              with_reducible apply run_y
              exact want_
              · intro K hK
                refine ev_ ?_
                refine vcCall_plain (hP) (by kernel_rfl) ?_
                refine ev_ ?_
                exact hK
              refine go_ ?_
              clear hP
              by_cases k3 : fp = fp'
              · have q3 : (bif (bif !decide (fn = fn') then true else fw != fw') then true else !eqB fp fp') = false := by rw [q2, eqB_t k3]; rfl
                refine go_ ?_
                with_reducible apply run_y
                exact want_
                · intro K hK
                  refine ev_ ?_
                  refine vcCall_plain (hL) (by kernel_rfl) ?_
                  refine ev_ ?_
                  exact hK
                refine go_ ?_
                clear hL q1 q2 q3
                by_cases k4 : fl = fl'
                · have q4 : (!eqB fl fl') = false := by rw [eqB_t k4]; rfl
                  refine go_ ?_
                  with_reducible apply run_y
                  exact want_
                  · intro K hK
                    refine ev_ ?_
                    refine vcCall_plain (hB) (by kernel_rfl) ?_
                    refine ev_ ?_
                    exact hK
                  refine go_ ?_
                  clear hB
                  by_cases k5 : fb = fb'
                  · have q5 : (bif !eqB fl fl' then true else !eqB fb fb') = false := by rw [q4, eqB_t k5]; rfl
                    refine go_ ?_
                    rw [hw2]
                    refine c_round ⟨_, _, _, _, ?_, ?_, ?_, ⟨j + 1, by omega, hte ⟨k1, k2, k3, k4, k5⟩, rfl, rfl, rfl, rfl⟩⟩
                    · omega
                    · rfl
                    · skip
                      exact sub_
                  · have q5 : (bif !eqB fl fl' then true else !eqB fb fb') = true := by rw [q4, eqB_f k5]; rfl
                    refine go_ ?_
                    refine ev_ ?_
                    exact .mk (vb_eq (by rw [hne (fun e => hnj (fun e => k5 e.2.2.2.2) e.2.2)])) trivial
                · have q4 : (!eqB fl fl') = true := by rw [eqB_f k4]; rfl
                  refine go_ ?_
                  refine ev_ ?_
                  exact .mk (vb_eq (by rw [hne (fun e => hnj (fun e => k4 e.2.2.2.1) e.2.2)])) trivial
              · have q3 : (bif (bif !decide (fn = fn') then true else fw != fw') then true else !eqB fp fp') = true := by rw [q2, eqB_f k3]; rfl
                refine go_ ?_
                refine ev_ ?_
                exact .mk (vb_eq (by rw [hne (fun e => hnj (fun e => k3 e.2.2.1) e.2.2)])) trivial
            · have q2 : (bif !decide (fn = fn') then true else fw != fw') = true := by rw [q1]; simpa using k2
              refine go_ ?_
              refine ev_ ?_
              exact .mk (vb_eq (by rw [hne (fun e => hnj (fun e => k2 e.2.1) e.2.2)])) trivial
          · have q1 : (!decide (fn = fn')) = true := by simpa using k1
            refine go_ ?_
            refine ev_ ?_
            exact .mk (vb_eq (by rw [hne (fun e => hnj (fun e => k1 e.1) e.2.2)])) trivial
        have hj' : j = pf.length := by have := of_decide_eq_false hb; rw [map_len] at this; omega
        subst hj'
        refine go_ ?_
        refine ev_ ?_
        exact .mk (vb_eq (by rw [eqB_t (by rw [pg_inj]; exact ⟨h1, hpa, all_eq h3 ht⟩)])) trivial
      · have g3 : (bif (bif !eqB pv qv then true else ((pa.map arC).length : Int) != ((qa.map arC).length : Int)) then true else ((pf.map fuC).length : Int) != ((qf.map fuC).length : Int)) = true := by rw [g2, map_len, map_len]; simp; omega
        refine go_ ?_
        refine ev_ ?_
        exact .mk (vb_eq (by rw [hne (fun e => h3 (by rw [e.2.2]))])) trivial
    · have g2 : (bif !eqB pv qv then true else ((pa.map arC).length : Int) != ((qa.map arC).length : Int)) = true := by rw [g1, map_len, map_len]; simp; omega
      refine go_ ?_
      refine ev_ ?_
      exact .mk (vb_eq (by rw [hne (fun e => h2 (by rw [e.2.1]))])) trivial
  · have g1 : (!eqB pv qv) = true := by rw [eqB_f h1]; rfl
    refine go_ ?_
    refine ev_ ?_
    exact .mk (vb_eq (by rw [hne (fun e => h1 e.1)])) trivial
end Go.Proofs.YtddggjmfplohkaaDoor
