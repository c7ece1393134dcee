import Derived.Test.YthmepecedjamcaaDoorJouD
/- journal.Read, whole. -/
namespace Go.Proofs.YthmepecedjamcaaDoor
open Go.RowKit
attribute [local go_sem] Oper.semAt_some
theorem range_law {P : Program} {n : Nat} {g : Operand} {ps : Array Tmp} {assign body : Code} {Q : Exit → Act → World → Prop} {a : Act} {w : World} (h1 : 1 ≤ n) {gf : Nat} {lb : Array Value} (hg : a.eval g = .func (.func gf) #[] lb) (eg : ∀ args w, (callFunc gf args).run P w = .ok (.enter gf args) w)
    (h : ∀ (fn : FuncId) (rec : LoopState → Option Code → Loop) (W1 : World), (rec = fun st pe => { state := st, pending := pe, fn := fn, tmps := a.tmps, params := ps, assign := assign, body := body, defers := w.heap.size }) →
      Grow w W1 → W1.heap[w.heap.size + 1]? = some (.loop (rec .ready none)) → W1.heap[w.heap.size]? = some (.deferred (some [])) →
      CallsIn Fence.wide (n - 1) P gf (#[.func (.yield (w.heap.size + 1)) #[] #[]] ++ lb) W1 fun e W2 => (∃ v, e = .returned v) ∧ ∃ st pe, W2.heap[w.heap.size + 1]? = some (.loop (rec st pe)) ∧ st ≠ .busy ∧
        (match pe with
         | none => Q .normal { a with defers := { target := .collected w.heap.size, args := #[] } :: a.defers } (W2.putObj (w.heap.size + 1) (.loop (rec .exhausted pe)))
         | some c => c.wpIn Fence.wide n P Q { a with defers := { target := .collected w.heap.size, args := #[] } :: a.defers } (W2.putObj (w.heap.size + 1) (.loop (rec .exhausted pe))))) :
    (Code.rangeFunc g ps assign body).wpIn Fence.wide n P Q a w := by
  refine wpIn_rangeFunc ?_
  intro fn hfn
  obtain ⟨rec, hrec⟩ : ∃ rec : LoopState → Option Code → Loop, rec = fun st pe => { state := st, pending := pe, fn, tmps := a.tmps, params := ps, assign, body, defers := w.heap.size } := ⟨_, rfl⟩
  obtain ⟨W1, hW1⟩ : ∃ W1, (w.alloc (.deferred (some []))).alloc (.loop (rec .ready none)) = W1 := ⟨_, rfl⟩
  have hL1 : W1.heap[w.heap.size + 1]? = some (.loop (rec .ready none)) := by
    rw [← hW1]; have := World.alloc_heap_new (w.alloc (.deferred (some []))) (.loop (rec .ready none)); rwa [World.size_alloc] at this
  have hK1 : W1.heap[w.heap.size]? = some (.deferred (some [])) := by
    rw [← hW1]; exact (Below.heap_alloc _ _ _ (by simp)).trans (World.alloc_heap_new w _)
  have hb1 : Grow w W1 := by
    rw [← hW1]; exact ((Grow.refl w).alloc (Nat.le_refl _) _).alloc (by simp) _
  refine ⟨w.heap.size + 1, [{ target := .collected w.heap.size, args := #[] }], W1, { target := .fn (.func gf) lb, args := #[.func (.yield (w.heap.size + 1)) #[] #[]] }, W1, gf,
    #[.func (.yield (w.heap.size + 1)) #[] #[]] ++ lb, W1, ?_, ?_, ?_, ?_, fun _ => h1, ?_⟩
  · rw [← hW1, hrec]; exact run_enterLoop_outer _ _ _ _ _
  · simp only [resolve, hg]
    simp [go_sem]
  · intro f' hf'; exact trivial
  · simp [invoke, go_sem, eg]
  · refine (h fn rec W1 hrec hb1 hL1 hK1).mono ?_
    rintro e W2 ⟨⟨v, rfl⟩, st, pe, hl, hst, hq⟩
    refine ⟨pe, W2.putObj (w.heap.size + 1) (.loop (rec .exhausted pe)), ?_, hq⟩
    have := run_endLoop (P := P) hl (by rw [hrec]; exact hst)
    rw [hrec] at this ⊢
    exact this
theorem RdAt.put {w0 : World} {kl kn ks D : Nat} {acc : List (List UInt8)} {m : Nat} {s : List UInt8} {W : World} (h : RdAt w0 kl kn ks D acc m s W) {l : Nat} {o : Obj} (o' : Obj) (h1 : kl < l) (h2 : kn < l) (h3 : ks < l) (h0 : w0.heap.size ≤ l) (hl : W.heap[l]? = some o) (ho : o.isCells = false) : RdAt w0 kl kn ks D acc m s (W.putObj l o') := by
  obtain ⟨v, hv, hr⟩ := h.row
  have hg := grownBy_putObj' W l o'
  exact ⟨⟨v, hv.kept hg (by simp; omega), ownsRow_putObj hr _ hl ho⟩, h.num.kept hg (by simp; omega), h.str.kept hg (by simp; omega), h.gro.trans ((Below.refl _ W).grown hg (by have := (Array.getElem?_eq_some_iff.1 hl).1; omega) (fun k e => by cases e; omega))⟩
theorem own_obj {W : World} {base : Nat} {e : TypeId} {size n : Nat} {v : Value} {xs : List Value} (h : W.ownsRow base e size v n xs) {l : Nat} {o : Obj} (hl : W.heap[l]? = some o) (ho : o.isCells = false) : v.ownBlock ≠ some l := by
  rcases h.2 with ⟨rfl, _⟩ | ⟨g, cap, cur, rfl, _, hg, _⟩
  · simp [Value.ownBlock]
  · simp only [Value.ownBlock, ne_eq, Option.some.injEq]
    rintro rfl
    rw [hg] at hl; cases hl; cases ho
theorem RdAt.app {w0 : World} {kl kn ks D : Nat} {acc : List (List UInt8)} {m : Nat} {s : List UInt8} {W w1 : World} {v v' : Value} {r : List UInt8} {tmp : Obj} (h4 : kl < D) (h5 : kn < D) (h6 : ks < D) (h0 : w0.heap.size ≤ D) (hD : D ≤ W.heap.size)
    (hv : Boxed W kl 22 v) (hr : W.ownsRow D 9 1 v acc.length ((bsL acc).map Value.string)) (num : Boxed W kn 3 (.int .i64 ((m : Nat) : Int))) (str : Boxed W ks 9 (.string (bs s))) (gro : Grow w0 W)
    (hown' : w1.ownsRow D 9 1 v' (acc.length + 1) ((bsL acc).map Value.string ++ [.string (bs r)])) (hgrow : (W.alloc tmp).grownBy w1 v.ownBlock) :
    Boxed w1 kl 22 v ∧ Boxed w1 kn 3 (.int .i64 ((m : Nat) : Int)) ∧ Boxed w1 ks 9 (.string (bs s)) ∧ Grow w0 w1 ∧ w1.ownsRow D 9 1 v' (acc ++ [r]).length ((bsL (acc ++ [r])).map Value.string) ∧
      (∀ (l : Nat) (o : Obj), W.heap[l]? = some o → o.isCells = false → w1.heap[l]? = some o) := by
  refine ⟨(hv.alloc tmp).kept hgrow (own_not hr h4).symm, (num.alloc tmp).kept hgrow (own_not hr h5).symm, (str.alloc tmp).kept hgrow (own_not hr h6).symm, ?_, ?_, ?_⟩
  · refine (gro.alloc gro.size tmp).grown hgrow (by simp; omega) fun k hk => ?_
    rcases hr.2 with ⟨rfl, _⟩ | ⟨g, cap, cur, rfl, hg, _⟩
    · simp [Value.ownBlock] at hk
    · simp [Value.ownBlock] at hk; omega
  · have e : (bsL (acc ++ [r])).map Value.string = (bsL acc).map Value.string ++ [.string (bs r)] := by simp [bsL]
    rw [e, List.length_append]; exact hown'
  · intro l o hl ho
    have hlt := (Array.getElem?_eq_some_iff.1 hl).1
    exact (hgrow.block l (by simp; omega) (own_obj hr hl ho).symm).trans ((Below.heap_alloc _ _ _ (by omega)).trans hl)
theorem RdAt.two {w0 : World} {kl kn ks D : Nat} {acc : List (List UInt8)} {m : Nat} {s : List UInt8} {w1 : World} {v v' x : Value} (h1 : kl ≠ kn) (h2 : kl ≠ ks) (h3 : kn ≠ ks) (h4 : kl < D) (h5 : kn < D) (h6 : w0.heap.size ≤ kl) (h7 : w0.heap.size ≤ kn)
    (hv : Boxed w1 kl 22 v) (hn : Boxed w1 kn 3 x) (hs : Boxed w1 ks 9 (.string (bs s))) (hg : Grow w0 w1) (ho : w1.ownsRow D 9 1 v' acc.length ((bsL acc).map Value.string)) :
    RdAt w0 kl kn ks D acc m s ((w1.setCell ⟨kl, 0, none⟩ v').setCell ⟨kn, 0, none⟩ (.int .i64 ((m : Nat) : Int))) ∧ ∀ l, D ≤ l → ((w1.setCell ⟨kl, 0, none⟩ v').setCell ⟨kn, 0, none⟩ (.int .i64 ((m : Nat) : Int))).heap[l]? = w1.heap[l]? := by
  have g1 := grownBy_setCell' w1 kl v'
  have g2 := grownBy_setCell' (w1.setCell ⟨kl, 0, none⟩ v') kn (.int .i64 ((m : Nat) : Int))
  have o1 := ho.kept g1 (.inr (own_not ho h4))
  refine ⟨⟨⟨v', (hv.set v').kept g2 (by simpa using h1), o1.kept g2 (.inr (own_not o1 h5))⟩, (hn.kept g1 (by simpa using h1.symm)).set _, (hs.kept g1 (by simpa using h2.symm)).kept g2 (by simpa using h3.symm), (hg.setCell (p := ⟨kl, 0, none⟩) h6 _).setCell (p := ⟨kn, 0, none⟩) h7 _⟩, fun l hl => ?_⟩
  exact (Below.heap_setCell _ _ _ _ (by show l ≠ kn; omega)).trans (Below.heap_setCell _ _ _ _ (by show l ≠ kl; omega))
set_option maxHeartbeats 1000000 in
theorem records_in (n : Nat) (s : ByteArray) (w : World) : CallsIn Fence.wide n Tryd.prog 45 #[.string s] w fun e w' => e = .returned (.func (.func 59) #[] #[.pointer (some ⟨w.heap.size, 0, none⟩)]) ∧ w' = w.alloc (.cells #[.string s] 9) := by
  refine callsIn_of_wp Tryd.func45 rfl trivial ?_ rfl
  simp only [Tryd.ntmps45, List.size_toArray, List.length_cons, List.length_nil, Nat.reduceAdd, Nat.reduceSub, Array.replicate_succ, Array.replicate_zero, List.push_toArray, List.append_toArray, List.nil_append, List.cons_append]
  gi_wp2
  go_ret
  exact ⟨rfl, rfl⟩
set_option maxRecDepth 100000 in
set_option maxHeartbeats 2000000 in
theorem read_c (s0 : List UInt8) (hs0 : s0.length ≤ 900000) (w : World) (hP : Places w) : Calls Tryd.prog 25 #[.string (bs s0)] w fun e w' => ∃ v, e = .returned (.tuple #[v, .int .i64 (((readE 1000 s0).2 : Nat) : Int)]) ∧ w'.ownsRow w.heap.size 9 1 v (readE 1000 s0).1.length ((bsL (readE 1000 s0).1).map Value.string) ∧ Grow w w' := by
  have HP := Lib.hid hP
  have Hs := Lib.hid hs0
  clear hP hs0
  refine callsIn_wide (n := 3).1 (callsIn_of_wp_marks Tryd.func25 rfl trivial ?_ rfl)
  simp only [Tryd.ntmps25, List.size_toArray, List.length_cons, List.length_nil, Nat.reduceAdd, Nat.reduceSub, Array.replicate_succ, Array.replicate_zero, List.push_toArray, List.append_toArray, List.nil_append, List.cons_append]
  gi_wp2
  refine ⟨trivial, (records_in _ _ _).mono ?_⟩
  rintro e w' ⟨rfl, rfl⟩
  have bL := ((Boxed.new w 22 (.slice none 0 0)).alloc (.cells #[.int .i64 0] 3)).alloc (.cells #[.string (bs s0)] 9)
  have bN := (Boxed.new (w.alloc (.cells #[.slice none 0 0] 22)) 3 (.int .i64 0)).alloc (.cells #[.string (bs s0)] 9)
  have bS := Boxed.new ((w.alloc (.cells #[.slice none 0 0] 22)).alloc (.cells #[.int .i64 0] 3)) 9 (.string (bs s0))
  have hG : Grow w (((w.alloc (.cells #[.slice none 0 0] 22)).alloc (.cells #[.int .i64 0] 3)).alloc (.cells #[.string (bs s0)] 9)) := (((Grow.refl _).alloc (Nat.le_refl _) _).alloc (by simp) _).alloc (by simp; omega) _
  have hD : (((w.alloc (.cells #[.slice none 0 0] 22)).alloc (.cells #[.int .i64 0] 3)).alloc (.cells #[.string (bs s0)] 9)).heap.size = w.heap.size + 3 := by simp
  simp only [World.size_alloc] at bN bS ⊢
  generalize (((w.alloc (.cells #[.slice none 0 0] 22)).alloc (.cells #[.int .i64 0] 3)).alloc (.cells #[.string (bs s0)] 9)) = W0 at *
  have hR0 : RdAt w w.heap.size (w.heap.size + 1) (w.heap.size + 1 + 1) (w.heap.size + 3) [] 0 s0 W0 := ⟨⟨_, bL, World.ownsRow_nil _ _ _ _⟩, bN, bS, hG⟩
  clear bL bN bS hG
  gi_wp2
  refine range_law (by decide) (gf := 59) (lb := #[.pointer (some ⟨w.heap.size + 1 + 1, 0, none⟩)]) rfl (enters_of Tryd.func59 (by kernel_rfl) rfl) ?_
  intro fn rec W1 hrec hg1 hl1 hd1
  rw [hD] at *
  have hJ : RdJ w w.heap.size (w.heap.size + 1) (w.heap.size + 1 + 1) (w.heap.size + 3) rec .ready none [] 0 s0 W1 := ⟨hR0.grow hg1, hl1, hd1⟩
  clear hR0 hg1 hl1 hd1
  refine (recs_in 2 (by decide) w HP.out _ _ _ _ rec (by omega) (by omega) (by omega) (by omega) s0 Hs.out ?_ W1 hJ).mono ?_
  · intro acc m r s W hj hlen hm
    have hy := run_yield (P := Tryd.prog) (args := #[.string (bs r)]) hj.lop (by rw [hrec]; rfl)
    have hlo := hj.lop
    rw [hrec] at hy
    refine ⟨fn, _, _, _, hy, roundIn_of_wpIn trivial ?_⟩
    have Hj := Lib.hid hj
    clear hy hj
    gi_wp2
    refine ⟨_, run_beginRound hlo (by rw [hrec]), ?_⟩
    have hll := (Array.getElem?_eq_some_iff.1 hlo).1
    have hR := Hj.out.rd.put (.loop (rec .busy none)) (l := w.heap.size + 3 + 1) (by omega) (by omega) (by omega) (by omega) hlo rfl
    have hl2 : (W.putObj (w.heap.size + 3 + 1) (.loop (rec .busy none))).heap[w.heap.size + 3 + 1]? = some (.loop (rec .busy none)) := World.putObj_heap_same hll
    have hd2 : (W.putObj (w.heap.size + 3 + 1) (.loop (rec .busy none))).heap[w.heap.size + 3]? = some (.deferred (some [])) := (World.putObj_heap_other (by omega)).trans Hj.out.dfr
    have hrb : (Obj.loop { rec .ready none with state := .busy }) = Obj.loop (rec .busy none) := by rw [hrec]
    rw [hrb]
    clear hrb hll hlo Hj
    generalize W.putObj (w.heap.size + 3 + 1) (.loop (rec .busy none)) = W5 at *
    obtain ⟨v, hv, ho⟩ := hR.row
    have hc := hv.cell
    have hD5 : w.heap.size + 3 ≤ W5.heap.size := by have := (Array.getElem?_eq_some_iff.1 hl2).1; omega
    obtain ⟨i0, hi, hz0, hz1, hz2⟩ := info_parts info_strg
    have hw1 : RowKit.wrap64 (20 + ((bs r).size : Int)) = ((20 + r.length : Nat) : Int) := by rw [bs_size]; rw [w64 (by omega) (by omega)]; omega
    have hw2 : RowKit.wrap64 ((m : Int) + ((20 + r.length : Nat) : Int)) = ((m + (20 + r.length) : Nat) : Int) := by rw [w64 (by omega) (by omega)]; omega
    gi_wp2_with (gi_at_builtin; refine wpListIn_append_own _ rfl _ _ 22 rfl (w.heap.size + 3) 9 i0 (.string ByteArray.empty) 1 16 Tryd.underlying22 hi hz0 hz1 hz2 rfl (by decide) _ _ _ rfl (ho.alloc _) ⟨W5.heap.size, 0, none⟩ 1 1 [.string (bs r)] rfl rfl (cell_one_new _ _ _) (by simp [Value.oneCell']) (by simp only [maxLen]; omega) (by omega) (by simp; omega) ?_; intro v' w1 hown' hgrow _; obtain ⟨g', cap', rfl⟩ := ownsRow_succ hown'; obtain ⟨hv1, hn1, hs1, hg1, ho1, hk1⟩ := RdAt.app (by omega) (by omega) (by omega) (by omega) hD5 hv ho hR.num hR.str hR.gro hown' hgrow; have hc1 := hv1.cell; have hf1 := hv1.frozen; have hn2 := hn1.kept (grownBy_setCell' w1 w.heap.size (.slice (some ⟨g', 0, none⟩) (acc.length + 1) cap')) (by simp); have hc2 := hn2.cell; have hf2 := hn2.frozen; have hv3 := (hv1.set (.slice (some ⟨g', 0, none⟩) (acc.length + 1) cap')).kept (grownBy_setCell' _ (w.heap.size + 1) (.int .i64 ((m + (20 + r.length) : Nat) : Int))) (by simp); have hc3 := hv3.cell)
    all_goals
      have em : ((m : Int) + (20 + (r.length : Int))) = ((m + (20 + r.length) : Nat) : Int) := by omega
      rw [em]
      obtain ⟨hf, hh⟩ := RdAt.two (m := m + (20 + r.length)) (by omega) (by omega) (by omega) (by omega) (by omega) (by omega) (by omega) hv1 hn1 hs1 hg1 ho1
      have hl7 := (hh _ (by omega)).trans (hk1 _ _ hl2 rfl)
      have hd7 := (hh _ (by omega)).trans (hk1 _ _ hd2 rfl)
      generalize ((w1.setCell _ _).setCell _ _) = W7 at *
      have fin : ∀ jump : Option Code, (Instr.endRound (w.heap.size + 3 + 1) jump).run Tryd.prog W7 = .ok (.bool jump.isNone) (W7.putObj (w.heap.size + 3 + 1) (.loop (rec (if jump.isNone then .ready else .done) jump))) ∧
          RdJ w w.heap.size (w.heap.size + 1) (w.heap.size + 1 + 1) (w.heap.size + 3) rec (if jump.isNone then .ready else .done) jump (acc ++ [r]) (m + (20 + r.length)) s (W7.putObj (w.heap.size + 3 + 1) (.loop (rec (if jump.isNone then .ready else .done) jump))) := fun jump => by
        have hrun := run_endRound (P := Tryd.prog) jump hl7
        have e1 : (Obj.loop { rec .busy none with state := if jump.isNone then .ready else .done, pending := jump }) = Obj.loop (rec (if jump.isNone then .ready else .done) jump) := by rw [hrec]
        rw [e1] at hrun
        exact ⟨hrun, hf.put _ (by omega) (by omega) (by omega) (by omega) hl7 rfl, World.putObj_heap_same (Array.getElem?_eq_some_iff.1 hl7).1, (World.putObj_heap_other (by omega)).trans hd7⟩
      clear hf hh hl7 hd7 hrec
    · rename_i hx
      obtain ⟨f1, f2⟩ := fin (some (.exit 0))
      refine ⟨_, _, f1, .inr ⟨rfl, ?_, f2⟩⟩
      trace_state
      simp at hx
      omega
    · rename_i hx
      obtain ⟨f1, f2⟩ := fin none
      refine ⟨_, _, f1, .inl ⟨rfl, ?_, f2⟩⟩
      simp at hx
      omega
  · rintro e W2 ⟨⟨v, rfl⟩, st, pe, s, hj, hpe⟩
    refine ⟨⟨v, rfl⟩, st, pe, hj.lop, ?_, ?_⟩
    · rcases hpe with ⟨rfl, rfl⟩ | ⟨rfl, rfl⟩ <;> exact fun h => by cases h
    · have hr := hj.rd.put (.loop (rec .exhausted pe)) (l := w.heap.size + 3 + 1) (by omega) (by omega) (by omega) (by omega) hj.lop rfl
      have hd : (W2.putObj (w.heap.size + 3 + 1) (.loop (rec .exhausted pe))).heap[w.heap.size + 3]? = some (.deferred (some [])) := (World.putObj_heap_other (by omega)).trans hj.dfr
      generalize W2.putObj (w.heap.size + 3 + 1) (.loop (rec .exhausted pe)) = W3 at *
      obtain ⟨v, hv, ho⟩ := hr.row
      have hc1 := hv.cell
      have hc2 := hr.num.cell
      have Hd := Lib.hid hd
      have Hr := Lib.hid hr
      have Ho := Lib.hid (own_low ho (show w.heap.size ≤ w.heap.size + 3 by omega))
      clear hr hd ho hv hj hJ hrec
      rcases hpe with ⟨rfl, rfl⟩ | ⟨rfl, rfl⟩
      all_goals
        gi_wp2
        refine (wpIn_wide (n := 3)).2 ?_
        refine wp_region_all (fun W => W.cell? ⟨w.heap.size, 0, none⟩ = some v ∧ W.cell? ⟨w.heap.size + 1, 0, none⟩ = some (.int .i64 (((readE 1000 s0).2 : Nat) : Int)) ∧ Grow W3 W) (by kernel_rfl) (by kernel_rfl) ⟨hc1, hc2, (Grow.refl _).drew⟩ ?_
        (refine quiet_ex rfl ?_; apply Exists.intro; refine ⟨fun W hW => ?_, ?_⟩)
        · have c := hW.1; go_simp; try with_reducible rfl
        simp only [Act.put, List.setIfInBounds_toArray, List.set_cons_zero, List.set_cons_succ]
        (refine quiet_ex rfl ?_; apply Exists.intro; refine ⟨fun W hW => ?_, ?_⟩)
        · have c := hW.2.1; go_simp; try with_reducible rfl
        simp only [Act.put, List.setIfInBounds_toArray, List.set_cons_zero, List.set_cons_succ]
        (refine quiet_ex rfl ?_; apply Exists.intro; refine ⟨fun W hW => ?_, ?_⟩)
        · go_simp; try with_reducible rfl
        simp only [Act.put, List.setIfInBounds_toArray, List.set_cons_zero, List.set_cons_succ]
        (refine quiet_ex rfl ?_; apply Exists.intro; refine ⟨fun W hW => ?_, ?_⟩)
        · go_simp; try with_reducible rfl
        simp only [Act.put, List.setIfInBounds_toArray, List.set_cons_zero, List.set_cons_succ]
        refine wpQuiet_nil ?_
        rintro W4 ⟨-, -, hg4⟩
        clear hc1 hc2
        have hd4 := (hg4.block _ (Array.getElem?_eq_some_iff.1 Hd.out).1).trans Hd.out
        gi_wp2
        refine ⟨by simp, .inl ⟨_, _, rfl, run_takeDeferred hd4, ?_⟩⟩
        exact ⟨.tuple #[v, .int .i64 (((readE 1000 s0).2 : Nat) : Int)], (by simp [results, Tryd.f25]), v, rfl, ownsRow_putObj (ownsRow_grow Ho.out hg4) _ hd4 rfl, (Hr.out.gro.tr hg4).trans ((Below.refl _ W4).grown (grownBy_putObj' W4 _ _) (by have := (Hr.out.gro.tr hg4).size; omega) (fun k e => by cases e; omega))⟩
end Go.Proofs.YthmepecedjamcaaDoor
