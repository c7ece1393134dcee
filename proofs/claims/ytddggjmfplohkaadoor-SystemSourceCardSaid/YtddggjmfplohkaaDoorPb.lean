import Derived.Test.YtddggjmfplohkaaDoorTw
/- The reader of tokens: its box; what is said of its methods, which may end by a panic. -/
namespace Go.Proofs.YtddggjmfplohkaaDoor
open Go Go.RowKit
structure Tk where
  kind : Int
  text : ByteArray
  num : UInt32
  at_ : Int
def tkC (t : Tk) : List PV := [.v (.int .i64 t.kind), .v (.string t.text), .v (.int .u32 t.num.toNat), .v (.int .i64 t.at_)]
def rdC (l : List Tk) (i : Nat) (e : Int) : List PV := [.sl .any (l.map tkC), .v (.int .i64 (i : Int)), .v (.int .i64 e)]
/-- What is thrown. -/
def wrongV (a : Int) : Value := .iface 87 (.agg #[.int .i64 a])
/-- A place of a token, or the end. -/
def atIn (l : List Tk) (e a : Int) : Prop := a = e ∨ ∃ t ∈ l, a = t.at_
def RdR (l : List Tk) (e : Int) (o : Option (PV × Nat)) : Bool → PV → List HC → Prop := fun b r outs =>
  match o with
  | some (v, j) => b = true ∧ r = v ∧ outs = [.cells (rdC l j e)]
  | none => b = false ∧ ∃ a j, atIn l e a ∧ r = .v (wrongV a) ∧ outs = [.cells (rdC l j e)]
/-- What a method of the reader says: a result and how far it came, or a panic. -/
def SpecRd (f : FuncId) (az : List PV) (l : List Tk) (i : Nat) (e : Int) (o : Option (PV × Nat)) : Prop := SpecR (Ctx.mk Tryd.prog globU 7 LaidU) f (.ptr 1 0 :: az) [.cells (rdC l i e)] (RdR l e o)
theorem SpecRd.got {f : FuncId} {az : List PV} {l : List Tk} {i : Nat} {e : Int} {o : Option (PV × Nat)} {v : PV} {j : Nat} (h : SpecRd f az l i e o) (ho : o = some (v, j)) : SpecH (Ctx.mk Tryd.prog globU 7 LaidU) f (.ptr 1 0 :: az) [.cells (rdC l i e)] v [.cells (rdC l j e)] := by
  subst ho
  exact SpecR.ret h fun b r outs hr => hr
theorem vcCall_rd {np : Nat} {f : FuncId} {k : Nat} {az : List PV} {hp : Nat → HC} {K : Eff → Prop} {l : List Tk} {i j : Nat} {e : Int} {r : PV} (h : SpecH (Ctx.mk Tryd.prog globU 7 LaidU) f (.ptr 1 0 :: az) [.cells (rdC l i e)] r [.cells (rdC l j e)]) (ha : az.all PV.plain = true) (hk : k ≠ 0) (hc : hp k = .cells (rdC l i e))
    (hK : K ⟨r, [(k, .cells (rdC l j e))], [k]⟩) : vcCall (Ctx.mk Tryd.prog globU 7 LaidU) np f (.ptr k 0 :: az) hp K := by
  have hpl := List.all_eq_true.1 ha
  refine ⟨[], [k], .ptr 1 0 :: az, [.cells (rdC l i e)], r, [.cells (rdC l j e)], ?_, by simp, rfl, fun j' hj => ?_, ?_, ?_, fun a h => ?_, h, fun j' hj => ?_, hK⟩
  · rw [List.map_cons]
    congr 1
    rw [show az.map (ren [k]) = az.map id from List.map_congr_left fun a h => by
      have := hpl a h
      cases a <;> first | rfl | simp [PV.plain] at this]
    exact List.map_id az
  · have : j' = 0 := by simpa using hj
    subst this
    exact ⟨hk, hc⟩
  · intro c hc'
    rw [List.mem_singleton.1 hc']; rfl
  · intro c hc'
    rw [List.mem_singleton.1 hc']; rfl
  · rcases List.mem_cons.1 h with rfl | h
    · exact .inr (.inl ⟨1, 0, rfl, by decide, by simp⟩)
    · exact .inl (hpl a h)
  · cases j' with
    | zero => cases hj
    | succ j' => simp [HC.isBld] at hj
theorem vcDie_rd {f : FuncId} {k : Nat} {az : List PV} {hp : Nat → HC} {D : Value → List (Nat × HC) → Prop} {l : List Tk} {i : Nat} {e : Int} (h : SpecRd f az l i e none) (ha : az.all PV.plain = true) (hk : k ≠ 0) (hc : hp k = .cells (rdC l i e))
    (hD : ∀ a j, atIn l e a → D (wrongV a) [(k, .cells (rdC l j e))]) : vcDie0 (Ctx.mk Tryd.prog globU 7 LaidU) f (.ptr k 0 :: az) hp D := by
  have hpl := List.all_eq_true.1 ha
  refine ⟨[k], .ptr 1 0 :: az, [.cells (rdC l i e)], RdR l e none, ?_, by simp, rfl, fun j' hj => ?_, ?_, fun a h => ?_, h, fun b r outs hR => ?_⟩
  · rw [List.map_cons]
    congr 1
    rw [show az.map (ren [k]) = az.map id from List.map_congr_left fun a h => by
      have := hpl a h
      cases a <;> first | rfl | simp [PV.plain] at this]
    exact List.map_id az
  · have : j' = 0 := by simpa using hj
    subst this
    exact ⟨hk, hc⟩
  · intro c hc'
    rw [List.mem_singleton.1 hc']; rfl
  · rcases List.mem_cons.1 h with rfl | h
    · exact .inr (.inl ⟨1, 0, rfl, by decide, by simp⟩)
    · exact .inl (hpl a h)
  · obtain ⟨rfl, a, j, h1, rfl, rfl⟩ := hR
    refine ⟨rfl, ⟨fun c hc' => by rw [List.mem_singleton.1 hc']; rfl, fun j' hj => ?_⟩, _, rfl, hD a j h1⟩
    cases j' with
    | zero => cases hj
    | succ j' => simp [HC.isBld] at hj
theorem tkC_len (l : List Tk) : (l.map tkC).length = l.length := List.length_map _
theorem tkC_at {l : List Tk} {j : Nat} (h : j < l.length) : (l.map tkC)[j]? = some (tkC l[j]) := by simp [h]
/-- What comes: its text, if it is a word or a sign. -/
def peekE (l : List Tk) (i : Nat) : ByteArray :=
  match l[i]? with
  | some t => if t.kind = 3 ∨ t.kind = 4 then t.text else ByteArray.empty
  | none => ByteArray.empty
def kindE (l : List Tk) (i : Nat) : Int :=
  match l[i]? with
  | some t => t.kind
  | none => 0
theorem peek_in {l : List Tk} {i : Nat} (h : i < l.length) : peekE l i = if l[i].kind = 3 ∨ l[i].kind = 4 then l[i].text else ByteArray.empty := by unfold peekE; rw [List.getElem?_eq_getElem h]
theorem peek_out {l : List Tk} {i : Nat} (h : ¬ i < l.length) : peekE l i = ByteArray.empty := by unfold peekE; rw [List.getElem?_eq_none (by omega)]
theorem kind_in {l : List Tk} {i : Nat} (h : i < l.length) : kindE l i = l[i].kind := by unfold kindE; rw [List.getElem?_eq_getElem h]
theorem kind_out {l : List Tk} {i : Nat} (h : ¬ i < l.length) : kindE l i = 0 := by unfold kindE; rw [List.getElem?_eq_none (by omega)]
set_option maxHeartbeats 4000000 in
set_option maxRecDepth 100000 in
theorem s_kind (l : List Tk) (i : Nat) (e : Int) : SpecRd 68 [] l i e (some (.v (.int .i64 (kindE l i)), i)) := by
  unfold SpecRd
  by_cases h : i < l.length
  · have g0 : decide ((i : Int) < ((l.map tkC).length : Int)) = true := decide_eq_true (by rw [tkC_len]; omega)
    have hat := tkC_at h
    have hk := kind_in h
    generalize l[i] = t at *
    obtain ⟨tk, tt, tn, ta⟩ := t
    refine spec_of_bodyR CX_mixed CU_gpk Tryd.func68 rfl 24 1 (fun c hc => by rw [List.mem_singleton.1 hc]; rfl) rfl rfl ?_
    refine go_ ?_
    with_reducible apply run_y
    exact want_
    · intro K hK
      refine ev_ ?_
      refine ⟨i, _, rfl, hat, rfl, ?_⟩
      refine ev_ ?_
      exact hK
    refine go_ ?_
    refine ev_ ?_
    exact ⟨_, [.cells (rdC l (i) e)], .mk rfl (And.intro (And.intro rfl rfl) trivial), (by rw [hk]; exact ⟨rfl, rfl, rfl⟩), rfl, rfl⟩
  · have g0 : decide ((i : Int) < ((l.map tkC).length : Int)) = false := decide_eq_false (by rw [tkC_len]; omega)
    refine spec_of_bodyR CX_mixed CU_gpk Tryd.func68 rfl 24 1 (fun c hc => by rw [List.mem_singleton.1 hc]; rfl) rfl rfl ?_
    refine go_ ?_
    refine ev_ ?_
    exact ⟨_, [.cells (rdC l (i) e)], .mk rfl (And.intro (And.intro rfl rfl) trivial), (by rw [kind_out h]; exact ⟨rfl, rfl, rfl⟩), rfl, rfl⟩
set_option maxHeartbeats 4000000 in
set_option maxRecDepth 100000 in
theorem s_peek (l : List Tk) (i : Nat) (e : Int) : SpecRd 67 [] l i e (some (.v (.string (peekE l i)), i)) := by
  unfold SpecRd
  by_cases h : i < l.length
  · have g0 : decide ((i : Int) < ((l.map tkC).length : Int)) = true := decide_eq_true (by rw [tkC_len]; omega)
    have hat := tkC_at h
    have hk := peek_in h
    generalize l[i] = t at *
    obtain ⟨tk, tt, tn, ta⟩ := t
    by_cases h3 : tk = 3
    · have g1 : (tk == 3) = true := by simpa using h3
      have hk : peekE l i = tt := by rw [hk]; exact if_pos (.inl h3)
      refine spec_of_bodyR CX_mixed CU_gpk Tryd.func67 rfl 34 1 (fun c hc => by rw [List.mem_singleton.1 hc]; rfl) rfl rfl ?_
      refine go_ ?_
      with_reducible apply run_y
      exact want_
      · intro K hK
        refine ev_ ?_
        refine ⟨i, _, rfl, hat, rfl, ?_⟩
        refine ev_ ?_
        exact hK
      refine go_ ?_
      refine ev_ ?_
      exact ⟨_, [.cells (rdC l (i) e)], .mk rfl (And.intro (And.intro rfl rfl) trivial), (by rw [hk]; exact ⟨rfl, rfl, rfl⟩), rfl, rfl⟩
    · have g1 : (tk == 3) = false := by simpa using h3
      by_cases h4 : tk = 4
      · have g2 : (bif tk == 3 then true else tk == 4) = true := by rw [g1]; simpa using h4
        have hk : peekE l i = tt := by rw [hk]; exact if_pos (.inr h4)
        refine spec_of_bodyR CX_mixed CU_gpk Tryd.func67 rfl 34 1 (fun c hc => by rw [List.mem_singleton.1 hc]; rfl) rfl rfl ?_
        refine go_ ?_
        with_reducible apply run_y
        exact want_
        · intro K hK
          refine ev_ ?_
          refine ⟨i, _, rfl, hat, rfl, ?_⟩
          refine ev_ ?_
          exact hK
        refine go_ ?_
        refine ev_ ?_
        exact ⟨_, [.cells (rdC l (i) e)], .mk rfl (And.intro (And.intro rfl rfl) trivial), (by rw [hk]; exact ⟨rfl, rfl, rfl⟩), rfl, rfl⟩
      · have g2 : (bif tk == 3 then true else tk == 4) = false := by rw [g1]; simpa using h4
        have hk : peekE l i = ByteArray.empty := by rw [hk]; exact if_neg (by rintro (h | h); exact h3 h; exact h4 h)
        refine spec_of_bodyR CX_mixed CU_gpk Tryd.func67 rfl 34 1 (fun c hc => by rw [List.mem_singleton.1 hc]; rfl) rfl rfl ?_
        refine go_ ?_
        with_reducible apply run_y
        exact want_
        · intro K hK
          refine ev_ ?_
          refine ⟨i, _, rfl, hat, rfl, ?_⟩
          refine ev_ ?_
          exact hK
        refine go_ ?_
        refine ev_ ?_
        exact ⟨_, [.cells (rdC l (i) e)], .mk rfl (And.intro (And.intro rfl rfl) trivial), (by rw [hk]; exact ⟨rfl, rfl, rfl⟩), rfl, rfl⟩
  · have g0 : decide ((i : Int) < ((l.map tkC).length : Int)) = false := decide_eq_false (by rw [tkC_len]; omega)
    refine spec_of_bodyR CX_mixed CU_gpk Tryd.func67 rfl 34 1 (fun c hc => by rw [List.mem_singleton.1 hc]; rfl) rfl rfl ?_
    refine go_ ?_
    refine ev_ ?_
    exact ⟨_, [.cells (rdC l (i) e)], .mk rfl (And.intro (And.intro rfl rfl) trivial), (by rw [peek_out h]; exact ⟨rfl, rfl, rfl⟩), rfl, rfl⟩
set_option maxHeartbeats 4000000 in
set_option maxRecDepth 100000 in
theorem s_fail (l : List Tk) (i : Nat) (e : Int) : SpecRd 41 [] l i e none := by
  unfold SpecRd
  by_cases h : i < l.length
  · have g0 : decide ((i : Int) < ((l.map tkC).length : Int)) = true := decide_eq_true (by rw [tkC_len]; omega)
    have hat := tkC_at h
    have hin : atIn l e l[i].at_ := .inr ⟨l[i], List.getElem_mem h, rfl⟩
    generalize l[i] = t at *
    obtain ⟨tk, tt, tn, ta⟩ := t
    refine spec_of_bodyR CX_mixed CU_gpk Tryd.func41 rfl 31 1 (fun c hc => by rw [List.mem_singleton.1 hc]; rfl) rfl rfl ?_
    refine goto_ 1 ?_
    try with_reducible apply c_seq
    refine c_die 13 rfl rfl (fun h => ⟨by kernel_rfl, by kernel_rfl⟩) ?_
    simp only [List.take_succ_cons, List.take_zero]
    refine go_ ?_
    with_reducible apply run_y
    exact want_
    · intro K hK
      refine ev_ ?_
      refine ⟨i, _, rfl, hat, rfl, ?_⟩
      refine ev_ ?_
      exact hK
    refine go_ ?_
    refine run_end ⟨fun h => (by kernel_rfl), ?_⟩
    conv => whnf
    intro σ_ hσ_
    refine go_ ?_
    conv => whnf
    exact ⟨_, [.cells (rdC l i e)], rfl, And.intro (And.intro rfl rfl) trivial, (⟨rfl, ta, i, hin, rfl, rfl⟩), rfl⟩
  · have g0 : decide ((i : Int) < ((l.map tkC).length : Int)) = false := decide_eq_false (by rw [tkC_len]; omega)
    refine spec_of_bodyR CX_mixed CU_gpk Tryd.func41 rfl 31 1 (fun c hc => by rw [List.mem_singleton.1 hc]; rfl) rfl rfl ?_
    refine goto_ 2 ?_
    try with_reducible apply c_seq
    refine c_die 6 rfl rfl (fun h => by cases h) ?_
    simp only [List.take_succ_cons, List.take_zero]
    refine go_ ?_
    refine run_end ⟨fun h => (by cases h), ?_⟩
    conv => whnf
    intro σ_ hσ_
    refine go_ ?_
    conv => whnf
    exact ⟨_, [.cells (rdC l i e)], rfl, And.intro (And.intro rfl rfl) trivial, (⟨rfl, e, i, .inl rfl, rfl, rfl⟩), rfl⟩
/-- One of a kind. -/
def takeE (l : List Tk) (i : Nat) (k : Int) : Option (Tk × Nat) :=
  match l[i]? with
  | some t => if t.kind = k then some (t, i + 1) else none
  | none => none
def tkO : Option (Tk × Nat) → Option (PV × Nat)
  | some (t, j) => some (.agg (tkC t), j)
  | none => none
set_option maxHeartbeats 4000000 in
set_option maxRecDepth 100000 in
theorem s_take (l : List Tk) (i : Nat) (e : Int) (k : Int) (hk : k ≠ 0) (hl : l.length ≤ 1000000) : SpecRd 44 [.v (.int .i64 k)] l i e (tkO (takeE l i k)) := by
  unfold SpecRd
  by_cases h : i < l.length
  · have hat := tkC_at h
    have hki := kind_in h
    have ht : takeE l i k = if l[i].kind = k then some (l[i], i + 1) else none := by unfold takeE; rw [List.getElem?_eq_getElem h]
    have hw2 : IntKind.i64.wrap ((i : Int) + 1) = ((i + 1 : Nat) : Int) := by rw [wrap64 (by omega) (by omega)]; omega
    generalize l[i] = t at *
    obtain ⟨tk, tt, tn, ta⟩ := t
    by_cases hkk : tk = k
    · have g1 : (kindE l i != k) = false := by rw [hki]; simpa using hkk
      rw [if_pos hkk] at ht
      refine spec_of_bodyR CX_mixed CU_gpk Tryd.func44 rfl 30 1 (fun c hc => by rw [List.mem_singleton.1 hc]; rfl) rfl rfl ?_
      refine go_ ?_
      with_reducible apply run_y
      exact want_
      · intro K hK
        refine ev_ ?_
        refine vcCall_rd ((s_kind l i e).got rfl) (by kernel_rfl) (by decide) rfl ?_
        refine ev_ ?_
        exact hK
      refine go_ ?_
      with_reducible apply run_y
      exact want_
      · intro K hK
        refine ev_ ?_
        refine ⟨i, _, rfl, hat, rfl, ?_⟩
        refine ev_ ?_
        exact hK
      refine go_ ?_
      rw [hw2]
      refine go_ ?_
      refine ev_ ?_
      exact ⟨_, [.cells (rdC l (i + 1) e)], .mk rfl (And.intro (And.intro rfl rfl) trivial), (by rw [ht]; exact ⟨rfl, rfl, rfl⟩), rfl, rfl⟩
    · have g1 : (kindE l i != k) = true := by rw [hki]; simpa using hkk
      rw [if_neg hkk] at ht
      refine spec_of_bodyR CX_mixed CU_gpk Tryd.func44 rfl 30 1 (fun c hc => by rw [List.mem_singleton.1 hc]; rfl) rfl rfl ?_
      refine go_ ?_
      with_reducible apply run_y
      exact want_
      · intro K hK
        refine ev_ ?_
        refine vcCall_rd ((s_kind l i e).got rfl) (by kernel_rfl) (by decide) rfl ?_
        refine ev_ ?_
        exact hK
      refine goto_ 2 ?_
      try with_reducible apply c_seq
      refine c_die 1 rfl rfl (fun h => by cases h) ?_
      simp only [List.take_succ_cons, List.take_zero]
      refine go_ ?_
      refine run_end ⟨fun h => (by cases h), ?_⟩
      conv => whnf
      refine And.intro (by kernel_rfl) (vcDie_rd (s_fail l i e) (by kernel_rfl) (by decide) rfl fun a_ j_ ha_ => ?_)
      conv => whnf
      intro σ_ hσ_
      refine go_ ?_
      conv => whnf
      exact ⟨_, [.cells (rdC l j_ e)], rfl, And.intro (And.intro rfl rfl) trivial, (by rw [ht]; exact ⟨rfl, a_, j_, ha_, rfl, rfl⟩), rfl⟩
  · have g1 : (kindE l i != k) = true := by rw [kind_out h]; simpa using hk.symm
    have ht : takeE l i k = none := by unfold takeE; rw [List.getElem?_eq_none (by omega)]
    refine spec_of_bodyR CX_mixed CU_gpk Tryd.func44 rfl 30 1 (fun c hc => by rw [List.mem_singleton.1 hc]; rfl) rfl rfl ?_
    refine go_ ?_
    with_reducible apply run_y
    exact want_
    · intro K hK
      refine ev_ ?_
      refine vcCall_rd ((s_kind l i e).got rfl) (by kernel_rfl) (by decide) rfl ?_
      refine ev_ ?_
      exact hK
    refine goto_ 2 ?_
    try with_reducible apply c_seq
    refine c_die 1 rfl rfl (fun h => by cases h) ?_
    simp only [List.take_succ_cons, List.take_zero]
    refine go_ ?_
    refine run_end ⟨fun h => (by cases h), ?_⟩
    conv => whnf
    refine And.intro (by kernel_rfl) (vcDie_rd (s_fail l i e) (by kernel_rfl) (by decide) rfl fun a_ j_ ha_ => ?_)
    conv => whnf
    intro σ_ hσ_
    refine go_ ?_
    conv => whnf
    exact ⟨_, [.cells (rdC l j_ e)], rfl, And.intro (And.intro rfl rfl) trivial, (by rw [ht]; exact ⟨rfl, a_, j_, ha_, rfl, rfl⟩), rfl⟩
/-- Does that come? Then it is passed. -/
def mayE (l : List Tk) (i : Nat) (s : ByteArray) : Nat := if peekE l i = s then i + 1 else i
set_option maxHeartbeats 4000000 in
set_option maxRecDepth 100000 in
theorem s_may (l : List Tk) (i : Nat) (e : Int) (s : ByteArray) (hi : i ≤ 1000000) : SpecRd 42 [.v (.string s)] l i e (some (.v (.bool (decide (peekE l i = s))), mayE l i s)) := by
  unfold SpecRd
  have hw2 : IntKind.i64.wrap ((i : Int) + 1) = ((i + 1 : Nat) : Int) := by rw [wrap64 (by omega) (by omega)]; omega
  by_cases h : peekE l i = s
  · have g1 : (!decide (peekE l i = s)) = false := by simpa using h
    have hm : mayE l i s = i + 1 := if_pos h
    have hd : decide (peekE l i = s) = true := decide_eq_true h
    refine spec_of_bodyR CX_mixed CU_gpk Tryd.func42 rfl 16 1 (fun c hc => by rw [List.mem_singleton.1 hc]; rfl) rfl rfl ?_
    refine go_ ?_
    with_reducible apply run_y
    exact want_
    · intro K hK
      refine ev_ ?_
      refine vcCall_rd ((s_peek l i e).got rfl) (by kernel_rfl) (by decide) rfl ?_
      refine ev_ ?_
      exact hK
    refine go_ ?_
    rw [hw2]
    refine go_ ?_
    refine ev_ ?_
    exact ⟨_, [.cells (rdC l (i + 1) e)], .mk rfl (And.intro (And.intro rfl rfl) trivial), (by rw [hm, hd]; exact ⟨rfl, rfl, rfl⟩), rfl, rfl⟩
  · have g1 : (!decide (peekE l i = s)) = true := by simpa using h
    have hm : mayE l i s = i := if_neg h
    have hd : decide (peekE l i = s) = false := decide_eq_false h
    refine spec_of_bodyR CX_mixed CU_gpk Tryd.func42 rfl 16 1 (fun c hc => by rw [List.mem_singleton.1 hc]; rfl) rfl rfl ?_
    refine go_ ?_
    with_reducible apply run_y
    exact want_
    · intro K hK
      refine ev_ ?_
      refine vcCall_rd ((s_peek l i e).got rfl) (by kernel_rfl) (by decide) rfl ?_
      refine ev_ ?_
      exact hK
    refine go_ ?_
    refine ev_ ?_
    exact ⟨_, [.cells (rdC l (i) e)], .mk rfl (And.intro (And.intro rfl rfl) trivial), (by rw [hm, hd]; exact ⟨rfl, rfl, rfl⟩), rfl, rfl⟩
end Go.Proofs.YtddggjmfplohkaaDoor

/- The reader: texts that must come, names, signs. -/
namespace Go.Proofs.YtddggjmfplohkaaDoor
open Go Go.RowKit
/-- These must come. -/
def mustE (l : List Tk) : List ByteArray → Nat → Option Nat
  | [], i => some i
  | s :: ts, i => if peekE l i = s then mustE l ts (i + 1) else none
def unO : Option Nat → Option (PV × Nat)
  | some j => some (.tup [], j)
  | none => none
set_option maxHeartbeats 4000000 in
set_option maxRecDepth 100000 in
theorem s_must (l : List Tk) (i : Nat) (e : Int) (ts : List ByteArray) (hi : i ≤ 1000000) (ht : ts.length ≤ 1000) : SpecRd 45 [.sl .any (ssP ts)] l i e (unO (mustE l ts i)) := by
  unfold SpecRd
  refine spec_of_bodyR CX_mixed CU_gpk Tryd.func45 rfl 26 1 (fun c hc => by rw [List.mem_singleton.1 hc]; rfl) rfl rfl ?_
  refine go_ ?_
  refine c_loop (fun k q m h => ∃ j n : Nat, j ≤ ts.length ∧ n ≤ i + j ∧ mustE l (ts.drop j) n = mustE l ts i ∧ k = ts.length - j ∧ q = [.ptr 1 0, .top, .top, .top, .top, .top, .sl .any (ssP ts), .v (.int .i64 ((ssP ts).length : Int)), .v (.int .i64 (j : Int))] ++ List.replicate 17 .top ∧ m = 2 ∧ h = [(1, .cells (rdC l n e))])
    ⟨_, _, _, _, ?_, ?_, ⟨0, i, Nat.zero_le _, Nat.le_refl _, rfl, rfl, rfl, rfl, rfl⟩⟩ ?_
  · rfl
  · skip
    exact sub_
  rintro k q m h hlen ⟨j, n, hj, hn, hm, rfl, rfl, rfl, rfl⟩
  clear hlen
  refine go_ ?_
  first | refine run_b rfl rfl rfl (fun hb => ?_) (fun hb => ?_) | refine c_cond rfl (fun hb => ?_) (fun hb => ?_)
  · have hj' : j < ts.length := by have := of_decide_eq_true hb; rw [ssP_len] at this; omega
    have hw2 : IntKind.i64.wrap ((j : Int) + 1) = ((j + 1 : Nat) : Int) := by rw [wrap64 (by omega) (by omega)]; omega
    have hw3 : IntKind.i64.wrap ((n : Int) + 1) = ((n + 1 : Nat) : Int) := by rw [wrap64 (by omega) (by omega)]; omega
    have e1 : ts.getD j ByteArray.empty = ts[j] := by simp [List.getD, hj']
    rw [List.drop_eq_getElem_cons hj', mustE, ← e1] at hm
    by_cases hp : peekE l n = ts.getD j ByteArray.empty
    · have g1 : (!decide (peekE l n = ts.getD j ByteArray.empty)) = false := by simpa using hp
      rw [if_pos hp] at hm
      refine go_ ?_
      with_reducible apply run_y
      exact want_
      · intro K hK
        refine ev_ ?_
        refine vcCall_rd ((s_peek l n e).got rfl) (by kernel_rfl) (by decide) rfl ?_
        refine ev_ ?_
        exact hK
      refine go_ ?_
      rw [hw3]
      refine go_ ?_
      rw [hw2]
      refine c_round ⟨_, _, _, _, ?_, ?_, ?_, ⟨j + 1, n + 1, by omega, by omega, hm, rfl, rfl, rfl, rfl⟩⟩
      · omega
      · rfl
      · skip
        exact sub_
    · have g1 : (!decide (peekE l n = ts.getD j ByteArray.empty)) = true := by simpa using hp
      rw [if_neg hp] at hm
      refine go_ ?_
      with_reducible apply run_y
      exact want_
      · intro K hK
        refine ev_ ?_
        refine vcCall_rd ((s_peek l n e).got rfl) (by kernel_rfl) (by decide) rfl ?_
        refine ev_ ?_
        exact hK
      refine goto_ 4 ?_
      try with_reducible apply c_seq
      refine c_die 1 rfl rfl (fun h => by cases h) ?_
      simp only [List.take_succ_cons, List.take_zero]
      refine go_ ?_
      refine run_end ⟨fun h => (by cases h), ?_⟩
      conv => whnf
      refine And.intro (by kernel_rfl) (vcDie_rd (s_fail l n e) (by kernel_rfl) (by decide) rfl fun a_ j_ ha_ => ?_)
      conv => whnf
      intro σ_ hσ_
      refine go_ ?_
      conv => whnf
      exact ⟨_, [.cells (rdC l j_ e)], rfl, And.intro (And.intro rfl rfl) trivial, (by rw [← hm]; exact ⟨rfl, a_, j_, ha_, rfl, rfl⟩), rfl⟩
  have hj' : j = ts.length := by have := of_decide_eq_false hb; rw [ssP_len] at this; omega
  have hm : mustE l ts i = some n := by rw [← hm, hj', List.drop_length]; rfl
  refine go_ ?_
  refine ev_ ?_
  exact ⟨_, [.cells (rdC l (n) e)], .mk rfl (And.intro (And.intro rfl rfl) trivial), (by rw [hm]; exact ⟨rfl, rfl, rfl⟩), rfl, rfl⟩
/-- Further names: each behind a comma. -/
def nmsT (l : List Tk) : Nat → Nat → Option (List ByteArray × Nat)
  | 0, _ => none
  | f + 1, j => if peekE l j = (⟨#[44]⟩ : ByteArray) then (match takeE l (j + 1) 1 with
    | none => none
    | some (t, k) => match nmsT l f k with
      | none => none
      | some (r, n) => some (t.text :: r, n)) else some ([], j)
def nmsE (l : List Tk) (i : Nat) : Option (List ByteArray × Nat) :=
  match takeE l i 1 with
  | none => none
  | some (t, k) => match nmsT l (l.length + 1) k with
    | none => none
    | some (r, n) => some (t.text :: r, n)
def ssO (acc : List ByteArray) : Option (List ByteArray × Nat) → Option (PV × Nat)
  | some (r, n) => some (.sl .any (ssP (acc ++ r)), n)
  | none => none
theorem take_some {l : List Tk} {i : Nat} {k : Int} {t : Tk} {j : Nat} (h : takeE l i k = some (t, j)) : i < l.length ∧ j = i + 1 ∧ t.kind = k ∧ l[i]? = some t := by
  unfold takeE at h
  split at h
  · rename_i t' ht
    split at h
    · rename_i hk
      cases h
      have hi : i < l.length := by
        rcases Nat.lt_or_ge i l.length with hlt | hge
        · exact hlt
        · rw [List.getElem?_eq_none hge] at ht; cases ht
      exact ⟨hi, rfl, hk, ht⟩
    · cases h
  · cases h
theorem peek_lt {l : List Tk} {i : Nat} {s : ByteArray} (h : peekE l i = s) (hs : s.size ≠ 0) : i < l.length := by
  rcases Nat.lt_or_ge i l.length with hlt | hge
  · exact hlt
  · rw [peek_out (by omega)] at h
    subst h
    exact absurd rfl hs
set_option maxHeartbeats 8000000 in
set_option maxRecDepth 100000 in
theorem s_names (l : List Tk) (i : Nat) (e : Int) (hl : l.length ≤ 100000) : SpecRd 43 [] l i e (ssO [] (nmsE l i)) := by
  unfold SpecRd
  cases ht : takeE l i 1 with
  | none =>
    have ho : ssO [] (nmsE l i) = none := by unfold nmsE; rw [ht]; rfl
    have hs := s_take l i e 1 (by decide) (by omega)
    rw [ht] at hs
    refine spec_of_bodyR CX_mixed CU_gpk Tryd.func43 rfl 17 1 (fun c hc => by rw [List.mem_singleton.1 hc]; rfl) rfl rfl ?_
    refine goto_ 1 ?_
    try with_reducible apply c_seq
    refine c_die 1 rfl rfl (fun h => by cases h) ?_
    simp only [List.take_succ_cons, List.take_zero]
    refine go_ ?_
    refine run_end ⟨fun h => (by cases h), ?_⟩
    conv => whnf
    refine And.intro (by kernel_rfl) (vcDie_rd (hs) (by kernel_rfl) (by decide) rfl fun a_ j_ ha_ => ?_)
    conv => whnf
    intro σ_ hσ_
    refine go_ ?_
    conv => whnf
    exact ⟨_, [.cells (rdC l j_ e)], rfl, And.intro (And.intro rfl rfl) trivial, (by rw [ho]; exact ⟨rfl, a_, j_, ha_, rfl, rfl⟩), rfl⟩
  | some tj =>
    obtain ⟨t, j⟩ := tj
    have hs := s_take l i e 1 (by decide) (by omega)
    rw [ht] at hs
    obtain ⟨hil, rfl, -, -⟩ := take_some ht
    have ho : ssO [] (nmsE l i) = ssO [t.text] (nmsT l (l.length + 1) (i + 1)) := by
      unfold nmsE
      rw [ht]
      simp only
      cases nmsT l (l.length + 1) (i + 1) with
      | none => rfl
      | some rn => rfl
    rw [ho]
    clear ho ht
    obtain ⟨tk, tt, tn, ta⟩ := t
    refine spec_of_bodyR CX_mixed CU_gpk Tryd.func43 rfl 17 1 (fun c hc => by rw [List.mem_singleton.1 hc]; rfl) rfl rfl ?_
    refine go_ ?_
    with_reducible apply run_y
    exact want_
    · intro K hK
      refine ev_ ?_
      refine vcCall_rd (hs.got rfl) (by kernel_rfl) (by decide) rfl ?_
      refine ev_ ?_
      exact hK
    refine go_ ?_
    clear hs
    refine c_loop (fun k q m h => ∃ (acc : List ByteArray) (f j : Nat), acc.length ≤ j ∧ j ≤ l.length ∧ l.length < f + j ∧ ssO acc (nmsT l f j) = ssO [tt] (nmsT l (l.length + 1) (i + 1)) ∧ k = f ∧
        ((q = [.ptr 1 0, .top, .top, .sl .full (ssP acc)] ++ List.replicate 13 .top ∧ m = 2 ∧ h = [(1, .cells (rdC l j e))]) ∨
         (q = [.ptr 1 0, .top, .top, .sl (.own 2) (ssP acc)] ++ List.replicate 13 .top ∧ m = 3 ∧ h = [(1, .cells (rdC l j e)), (2, .row (ssP acc).length 9)])))
      ⟨_, _, _, _, ?_, ?_, ⟨[tt], l.length + 1, i + 1, by simp, by omega, by omega, rfl, rfl, .inl ⟨rfl, rfl, rfl⟩⟩⟩ ?_
    · rfl
    · skip
      exact sub_
    rintro k q m h hlen ⟨acc, f, j, hac, hjl, hf, hm, rfl, hq⟩
    clear hlen
    cases k with
    | zero => exfalso; omega
    | succ f =>
      have hmay := s_may l j e (⟨#[44]⟩ : ByteArray) (by omega)
      rw [nmsT] at hm
      by_cases hc : peekE l j = (⟨#[44]⟩ : ByteArray)
      · have gd : decide (peekE l j = (⟨#[44]⟩ : ByteArray)) = true := decide_eq_true hc
        have hme : mayE l j (⟨#[44]⟩ : ByteArray) = j + 1 := if_pos hc
        rw [gd, hme] at hmay
        rw [if_pos hc] at hm
        have hs := s_take l (j + 1) e 1 (by decide) (by omega)
        cases ht : takeE l (j + 1) 1 with
        | none =>
          rw [ht] at hs hm
          rcases hq with ⟨rfl, rfl, rfl⟩ | ⟨rfl, rfl, rfl⟩
          · skip
            refine go_ ?_
            with_reducible apply run_y
            exact want_
            · intro K hK
              refine ev_ ?_
              refine vcCall_rd (hmay.got rfl) (by kernel_rfl) (by decide) rfl ?_
              refine ev_ ?_
              exact hK
            refine goto_ 3 ?_
            try with_reducible apply c_seq
            refine c_die 2 rfl rfl (fun h => by cases h) ?_
            simp only [List.take_succ_cons, List.take_zero]
            refine go_ ?_
            refine run_end ⟨fun h => (by cases h), ?_⟩
            conv => whnf
            refine And.intro (by kernel_rfl) (vcDie_rd (hs) (by kernel_rfl) (by decide) rfl fun a_ j_ ha_ => ?_)
            conv => whnf
            intro σ_ hσ_
            refine go_ ?_
            conv => whnf
            exact ⟨_, [.cells (rdC l j_ e)], rfl, And.intro (And.intro rfl rfl) trivial, (by rw [← hm]; exact ⟨rfl, a_, j_, ha_, rfl, rfl⟩), rfl⟩
          · skip
            refine go_ ?_
            with_reducible apply run_y
            exact want_
            · intro K hK
              refine ev_ ?_
              refine vcCall_rd (hmay.got rfl) (by kernel_rfl) (by decide) rfl ?_
              refine ev_ ?_
              exact hK
            refine goto_ 3 ?_
            try with_reducible apply c_seq
            refine c_die 2 rfl rfl (fun h => by cases h) ?_
            simp only [List.take_succ_cons, List.take_zero]
            refine go_ ?_
            refine run_end ⟨fun h => (by cases h), ?_⟩
            conv => whnf
            refine And.intro (by kernel_rfl) (vcDie_rd (hs) (by kernel_rfl) (by decide) rfl fun a_ j_ ha_ => ?_)
            conv => whnf
            intro σ_ hσ_
            refine go_ ?_
            conv => whnf
            exact ⟨_, [.cells (rdC l j_ e)], rfl, And.intro (And.intro rfl rfl) trivial, (by rw [← hm]; exact ⟨rfl, a_, j_, ha_, rfl, rfl⟩), rfl⟩
        | some tj =>
          obtain ⟨t, k⟩ := tj
          rw [ht] at hs hm
          obtain ⟨hil, rfl, -, -⟩ := take_some ht
          obtain ⟨tk, tt2, tn, ta⟩ := t
          have hm2 : ssO (acc ++ [tt2]) (nmsT l f (j + 1 + 1)) = ssO [tt] (nmsT l (l.length + 1) (i + 1)) := by
            rw [← hm]
            simp only
            cases nmsT l f (j + 1 + 1) with
            | none => rfl
            | some rn =>
              obtain ⟨r, n⟩ := rn
              simp [ssO]
          clear hm ht
          rcases hq with ⟨rfl, rfl, rfl⟩ | ⟨rfl, rfl, rfl⟩
          · skip
            refine go_ ?_
            with_reducible apply run_y
            exact want_
            · intro K hK
              refine ev_ ?_
              refine vcCall_rd (hmay.got rfl) (by kernel_rfl) (by decide) rfl ?_
              refine ev_ ?_
              exact hK
            refine go_ ?_
            with_reducible apply run_y
            exact want_
            · intro K hK
              refine ev_ ?_
              refine vcCall_rd (hs.got rfl) (by kernel_rfl) (by decide) rfl ?_
              refine ev_ ?_
              exact hK
            refine go_ ?_
            with_reducible apply run_y
            exact want_
            · intro K hK
              refine ev_ ?_
              refine ⟨ssP (acc ++ [tt2]), ssP_app acc [tt2], appOk_ss (l := acc) (l' := [tt2]) rfl rfl rfl (by simp; omega), ?_⟩
              conv => whnf
              refine Or.inl ?_
              refine ev_ ?_
              exact hK
            refine go_ ?_
            refine c_round ⟨_, _, _, _, ?_, ?_, ?_, ⟨acc ++ [tt2], f, j + 1 + 1, by simp; omega, by omega, by omega, hm2, rfl, .inr ⟨rfl, rfl, rfl⟩⟩⟩
            · omega
            · rfl
            · skip
              exact sub_
          · skip
            refine go_ ?_
            with_reducible apply run_y
            exact want_
            · intro K hK
              refine ev_ ?_
              refine vcCall_rd (hmay.got rfl) (by kernel_rfl) (by decide) rfl ?_
              refine ev_ ?_
              exact hK
            refine go_ ?_
            with_reducible apply run_y
            exact want_
            · intro K hK
              refine ev_ ?_
              refine vcCall_rd (hs.got rfl) (by kernel_rfl) (by decide) rfl ?_
              refine ev_ ?_
              exact hK
            refine go_ ?_
            with_reducible apply run_y
            exact want_
            · intro K hK
              refine ev_ ?_
              refine ⟨ssP (acc ++ [tt2]), ssP_app (acc) ([tt2]), appOk_ss (l := acc) (l' := [tt2]) rfl rfl rfl (by simp; omega), ?_⟩
              refine ev_ ?_
              exact hK
            refine go_ ?_
            refine c_round ⟨_, _, _, _, ?_, ?_, ?_, ⟨acc ++ [tt2], f, j + 1 + 1, by simp; omega, by omega, by omega, hm2, rfl, .inr ⟨rfl, rfl, rfl⟩⟩⟩
            · omega
            · rfl
            · skip
              exact sub_
      · have gd : decide (peekE l j = (⟨#[44]⟩ : ByteArray)) = false := decide_eq_false hc
        have hme : mayE l j (⟨#[44]⟩ : ByteArray) = j := if_neg hc
        rw [gd, hme] at hmay
        rw [if_neg hc] at hm
        have hm2 : ssO [tt] (nmsT l (l.length + 1) (i + 1)) = some (.sl .any (ssP acc), j) := by rw [← hm]; simp [ssO]
        rcases hq with ⟨rfl, rfl, rfl⟩ | ⟨rfl, rfl, rfl⟩
        · skip
          refine go_ ?_
          with_reducible apply run_y
          exact want_
          · intro K hK
            refine ev_ ?_
            refine vcCall_rd (hmay.got rfl) (by kernel_rfl) (by decide) rfl ?_
            refine ev_ ?_
            exact hK
          refine go_ ?_
          refine ev_ ?_
          exact ⟨_, [.cells (rdC l (j) e)], .mk rfl (And.intro (And.intro rfl rfl) trivial), (by rw [hm2]; exact ⟨rfl, rfl, rfl⟩), rfl, rfl⟩
        · skip
          refine go_ ?_
          with_reducible apply run_y
          exact want_
          · intro K hK
            refine ev_ ?_
            refine vcCall_rd (hmay.got rfl) (by kernel_rfl) (by decide) rfl ?_
            refine ev_ ?_
            exact hK
          refine go_ ?_
          refine ev_ ?_
          exact ⟨_, [.cells (rdC l (j) e)], .mk rfl (And.intro (And.intro rfl rfl) trivial), (by rw [hm2]; exact ⟨rfl, rfl, rfl⟩), rfl, rfl⟩
end Go.Proofs.YtddggjmfplohkaaDoor
