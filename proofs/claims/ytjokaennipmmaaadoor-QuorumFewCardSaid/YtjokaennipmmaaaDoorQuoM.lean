import Derived.Test.YtjokaennipmmaaaDoorQuoV
/- Who agrees: the program's map of who signed, walked over plain values. -/
namespace Go.Proofs.YtjokaennipmmaaaDoor
open Go.RowKit
theorem insL_new {R : List (Nat × HC)} {k : Nat} {c : HC} {K : List (Nat × HC) → Prop} (h : ∀ p ∈ R, p.1 ≠ k) (hk : K (R ++ [(k, c)])) : insL R k c K := by
  induction R generalizing K with
  | nil => exact hk
  | cons p R ih =>
    obtain ⟨i, x⟩ := p
    unfold insL
    rw [nbeq_false (h (i, x) (by simp))]
    exact ih (fun p hp => h p (by simp [hp])) hk
theorem insL_at {R : List (Nat × HC)} {k : Nat} {c : HC} {K : List (Nat × HC) → Prop} {j : Nat} (hj : j < R.length) (hkj : (R[j]).1 = k) (h : (R.map (·.1)).Nodup) (hk : K (R.set j (k, c))) : insL R k c K := by
  induction R generalizing K j with
  | nil => simp at hj
  | cons p R ih =>
    obtain ⟨i, x⟩ := p
    unfold insL
    cases j with
    | zero =>
      have : i = k := hkj
      subst this
      rw [Nat.beq_refl]
      exact hk
    | succ j =>
      simp only [List.map_cons, List.nodup_cons] at h
      have hj' : j < R.length := by simpa using hj
      have hne : i ≠ k := fun e => h.1 (by
        rw [e, ← hkj]
        exact List.mem_map.2 ⟨R[j], List.getElem_mem hj', rfl⟩)
      rw [nbeq_false hne]
      exact ih hj' (by simpa using hkj) h.2 hk
theorem look_new {R : List (Nat × HC)} {k : Nat} {c : HC} (h : ∀ p ∈ R, p.1 ≠ k) : look (R ++ [(k, c)]) k = c := by
  induction R with
  | nil => simp [look]
  | cons p R ih =>
    obtain ⟨i, x⟩ := p
    show look ((i, x) :: (R ++ [(k, c)])) k = c
    unfold look
    rw [nbeq_false (fun e => h (i, x) (by simp) e.symm)]
    exact ih fun p hp => h p (by simp [hp])
theorem look_at {R : List (Nat × HC)} {k : Nat} {j : Nat} (hj : j < R.length) (hkj : (R[j]).1 = k) (h : (R.map (·.1)).Nodup) : look R k = (R[j]).2 := by
  induction R generalizing j with
  | nil => simp at hj
  | cons p R ih =>
    obtain ⟨i, x⟩ := p
    unfold look
    cases j with
    | zero =>
      have : i = k := hkj
      subst this
      rw [Nat.beq_refl]; rfl
    | succ j =>
      simp only [List.map_cons, List.nodup_cons] at h
      have hj' : j < R.length := by simpa using hj
      have hne : i ≠ k := fun e => h.1 (by
        rw [e, ← hkj]
        exact List.mem_map.2 ⟨R[j], List.getElem_mem hj', rfl⟩)
      rw [nbeq_false (fun e => hne e.symm)]
      exact ih hj' (by simpa using hkj) h.2
/-- Who signed, the number of the own row of its places (less 6), and the places. -/
abbrev Gp := D × Nat × List Nat
def rowsR (gs : List Gp) : List (Nat × HC) := gs.map fun g => (g.2.1 + 6, HC.row (isP g.2.2).length 3)
def byM (gs : List Gp) : List (PV × PV) := mdP (gs.map fun g => (g.1, PV.sl (.own (g.2.1 + 6)) (isP g.2.2)))
def byD (gs : List Gp) : List (PV × PV) := mdP (gs.map fun g => (g.1, PV.sl .any (isP g.2.2)))
def placesE (l : List Sd) (k : Nat) (d : D) : List Nat := (List.range k).filter fun i => decide ((l.getD i zeroSd).1 = d)
structure GsAt (l : List Sd) (gs : List Gp) (k m : Nat) : Prop where
  nd : (gs.map (·.2.1)).Nodup
  lt : ∀ g ∈ gs, g.2.1 < m
  keys : (gs.map (·.1)).Nodup
  idx : ∀ g ∈ gs, g.2.2 = placesE l k g.1
  all : ∀ i, i < k → ∃ g ∈ gs, g.1 = (l.getD i zeroSd).1
theorem GsAt.zero (l : List Sd) : GsAt l [] 0 0 := ⟨List.nodup_nil, fun g hg => (by cases hg), List.nodup_nil, fun g hg => (by cases hg), fun i hi => by omega⟩
theorem rowsR_ne {gs : List Gp} {m : Nat} (h : ∀ g ∈ gs, g.2.1 < m) : ∀ p ∈ rowsR gs, p.1 ≠ m + 6 := fun p hp => by
  obtain ⟨g, hg, rfl⟩ := List.mem_map.1 hp
  have := h g hg
  show g.2.1 + 6 ≠ m + 6
  omega
theorem hp5 (n np : Nat) (σ : List PV) (m : Nat) (a b c d e : HC) (R : List (Nat × HC)) (k : Nat) : (mkS n np σ m ((1, a) :: (2, b) :: (3, c) :: (4, d) :: (5, e) :: R)).hp (k + 6) = look R (k + 6) := by
  rw [mkS_hp, if_neg (by omega)]
  simp only [look]
  rw [nbeq_false (by omega : k + 6 ≠ 1), nbeq_false (by omega : k + 6 ≠ 2), nbeq_false (by omega : k + 6 ≠ 3), nbeq_false (by omega : k + 6 ≠ 4), nbeq_false (by omega : k + 6 ≠ 5)]
theorem insL_last {R : List (Nat × HC)} {k : Nat} {c c' : HC} {K : List (Nat × HC) → Prop} (h : ∀ p ∈ R, p.1 ≠ k) (hk : K (R ++ [(k, c')])) : insL (R ++ [(k, c)]) k c' K := by
  induction R generalizing K with
  | nil =>
    show insL [(k, c)] k c' K
    unfold insL
    rw [Nat.beq_refl]
    exact hk
  | cons p R ih =>
    obtain ⟨i, x⟩ := p
    show insL ((i, x) :: (R ++ [(k, c)])) k c' K
    unfold insL
    rw [nbeq_false (h (i, x) (by simp))]
    exact ih (fun p hp => h p (by simp [hp])) hk
theorem part_sd (s : Sd) {K : PV → Prop} (h : K (.agg (dP s.1))) : vcPart Tryd.prog 30 (sdP s) 0 K := by
  obtain ⟨sb, si, so, sp⟩ := s
  exact ⟨Nat.le_of_ble_eq_true rfl, h⟩
theorem rowsR_keys (gs : List Gp) : (rowsR gs).map (·.1) = (gs.map (·.2.1)).map (· + 6) := by
  unfold rowsR
  rw [List.map_map, List.map_map]; rfl
theorem rowsR_nodup {gs : List Gp} (h : (gs.map (·.2.1)).Nodup) : ((rowsR gs).map (·.1)).Nodup := by
  rw [rowsR_keys]
  rw [List.nodup_iff_pairwise_ne] at *
  exact List.Pairwise.map _ (fun a b hab e => hab (by omega)) h
theorem look_app {R R' : List (Nat × HC)} {k : Nat} (h : k ∈ R.map (·.1)) : look (R ++ R') k = look R k := by
  induction R with
  | nil => simp at h
  | cons p R ih =>
    obtain ⟨i, x⟩ := p
    show look ((i, x) :: (R ++ R')) k = look ((i, x) :: R) k
    unfold look
    by_cases e : k = i
    · subst e; rw [Nat.beq_refl]
    · rw [nbeq_false e]
      refine ih ?_
      rcases List.mem_map.1 h with ⟨q, hq, hqe⟩
      rcases List.mem_cons.1 hq with rfl | hq
      · exact absurd hqe.symm e
      · exact List.mem_map.2 ⟨q, hq, hqe⟩
theorem look_rows {gs : List Gp} (h : (gs.map (·.2.1)).Nodup) {g : Gp} (hg : g ∈ gs) : look (rowsR gs) (g.2.1 + 6) = .row (isP g.2.2).length 3 := by
  obtain ⟨j, hj, rfl⟩ := List.mem_iff_getElem.1 hg
  have hj' : j < (rowsR gs).length := by unfold rowsR; rw [List.length_map]; exact hj
  have e : (rowsR gs)[j] = (gs[j].2.1 + 6, HC.row (isP gs[j].2.2).length 3) := by simp [rowsR]
  rw [look_at hj' (by rw [e]) (rowsR_nodup h), e]
theorem mem_keys {gs : List Gp} {g : Gp} (hg : g ∈ gs) : g.2.1 + 6 ∈ (rowsR gs).map (·.1) := by
  rw [rowsR_keys, List.map_map]
  exact List.mem_map.2 ⟨g, hg, rfl⟩
theorem heapBnd_rows (m : Nat) : ∀ gs : List Gp, (∀ g ∈ gs, g.2.1 < m) → heapBnd (m + 6) (rowsR gs) = true
  | [], _ => rfl
  | g :: gs, h => by
    have h1 := h g (by simp)
    have h2 := heapBnd_rows m gs fun x hx => h x (by simp [hx])
    show (Nat.blt 0 (g.2.1 + 6) && Nat.blt (g.2.1 + 6) (m + 6) && true && heapBnd (m + 6) (rowsR gs)) = true
    have e1 : Nat.blt 0 (g.2.1 + 6) = true := by rw [Nat.blt_eq]; omega
    have e2 : Nat.blt (g.2.1 + 6) (m + 6) = true := by rw [Nat.blt_eq]; omega
    rw [h2, e1, e2]; rfl
theorem heapOk_rows {s : St} : ∀ gs : List Gp, (∀ g ∈ gs, s.hp (g.2.1 + 6) = .row (isP g.2.2).length 3) → heapOk s (rowsR gs)
  | [], _ => trivial
  | g :: gs, h => ⟨h g (by simp), heapOk_rows gs fun x hx => h x (by simp [hx])⟩
theorem byM_bnd {gs : List Gp} {m : Nat} (h : ∀ g ∈ gs, g.2.1 < m) : ((byM gs).all fun p => p.2.bnd0 (m + 6)) = true := by
  rw [List.all_eq_true]
  intro p hp
  unfold byM mdP at hp
  rw [List.map_map] at hp
  obtain ⟨g, hg, rfl⟩ := List.mem_map.1 hp
  show Nat.blt (g.2.1 + 6) (m + 6) = true
  rw [Nat.blt_eq]
  have := h g hg; omega
/-- A state with own rows says less. -/
theorem subR {s : St} {l : List PV} {m : Nat} {gs : List Gp} {a b c e : List PV} (h1 : slotsOk s 0 l) (h2 : l.all (PV.bnd (m + 6)) = true) (hnp : s.np = 0) (k1 : s.hp 1 = .cells a) (k2 : s.hp 2 = .cells b) (k3 : s.hp 3 = .cells c) (k4 : s.hp 4 = .mpo (byM gs)) (k5 : s.hp 5 = .cells e)
    (ha : a.all (PV.bnd1 (m + 6)) = true) (hb : b.all (PV.bnd1 (m + 6)) = true) (hc : c.all (PV.bnd1 (m + 6)) = true) (he : e.all (PV.bnd1 (m + 6)) = true) (kr : ∀ g ∈ gs, s.hp (g.2.1 + 6) = .row (isP g.2.2).length 3) (hlt : ∀ g ∈ gs, g.2.1 < m) :
    Sub s l (m + 6) ((1, .cells a) :: (2, .cells b) :: (3, .cells c) :: (4, .mpo (byM gs)) :: (5, .cells e) :: rowsR gs) := by
  refine ⟨h1, ⟨k1, k2, k3, k4, k5, heapOk_rows gs kr⟩, ?_⟩
  have e0 : Nat.blt s.np (m + 6) = true := by rw [hnp, Nat.blt_eq]; omega
  have e1 : ∀ i, 0 < i → i < 6 → (Nat.blt 0 i && Nat.blt i (m + 6)) = true := fun i h h' => by
    rw [Bool.and_eq_true, Nat.blt_eq, Nat.blt_eq]; omega
  simp only [heapBnd]
  rw [e0, h2, ha, hb, hc, he, byM_bnd hlt, heapBnd_rows m gs hlt, e1 1 (by omega) (by omega), e1 2 (by omega) (by omega), e1 3 (by omega) (by omega), e1 4 (by omega) (by omega), e1 5 (by omega) (by omega)]
  rfl
theorem placesE_yes {l : List Sd} {k : Nat} {d : D} (h : (l.getD k zeroSd).1 = d) : placesE l (k + 1) d = placesE l k d ++ [k] := by
  unfold placesE
  rw [List.range_succ, List.filter_append, List.filter_cons, if_pos (decide_eq_true h)]; rfl
theorem placesE_no {l : List Sd} {k : Nat} {d : D} (h : (l.getD k zeroSd).1 ≠ d) : placesE l (k + 1) d = placesE l k d := by
  unfold placesE
  rw [List.range_succ, List.filter_append, List.filter_cons, if_neg (by rw [decide_eq_false h]; decide)]; simp
theorem GsAt.newKey {l : List Sd} {gs : List Gp} {k m : Nat} (h : GsAt l gs k m) (hno : ∀ g ∈ gs, g.1 ≠ (l.getD k zeroSd).1) : GsAt l (gs ++ [((l.getD k zeroSd).1, m + 1, [k])]) (k + 1) (m + 2) := by
  refine ⟨?_, fun g hg => ?_, ?_, fun g hg => ?_, fun i hi => ?_⟩
  · rw [List.map_append, List.nodup_append]
    refine ⟨h.nd, by simp, fun a ha b hb e => ?_⟩
    obtain ⟨g, hg, rfl⟩ := List.mem_map.1 ha
    have := h.lt g hg
    simp at hb
    omega
  · rcases List.mem_append.1 hg with hg | hg
    · have := h.lt g hg; omega
    · obtain rfl := List.mem_singleton.1 hg
      show m + 1 < m + 2; omega
  · rw [List.map_append, List.nodup_append]
    refine ⟨h.keys, by simp, fun a ha b hb e => ?_⟩
    obtain ⟨g, hg, rfl⟩ := List.mem_map.1 ha
    simp at hb
    exact hno g hg (e.trans hb)
  · rcases List.mem_append.1 hg with hg | hg
    · rw [h.idx g hg, placesE_no (fun e => hno g hg e.symm)]
    · obtain rfl := List.mem_singleton.1 hg
      show [k] = placesE l (k + 1) (l.getD k zeroSd).1
      rw [placesE_yes rfl]
      have : placesE l k (l.getD k zeroSd).1 = [] := by
        unfold placesE
        rw [List.filter_eq_nil_iff]
        intro i hi he
        obtain ⟨g, hg, hgi⟩ := h.all i (List.mem_range.1 hi)
        exact hno g hg (hgi.trans (of_decide_eq_true he))
      rw [this]; rfl
  · by_cases e : i = k
    · subst e; exact ⟨_, List.mem_append_right _ (List.mem_singleton.2 rfl), rfl⟩
    · obtain ⟨g, hg, hgi⟩ := h.all i (by omega)
      exact ⟨g, List.mem_append_left _ hg, hgi⟩
theorem GsAt.oldKey {l : List Sd} {gs : List Gp} {k m j : Nat} (h : GsAt l gs k m) (hj : j < gs.length) (hjk : gs[j].1 = (l.getD k zeroSd).1) : GsAt l (gs.set j (gs[j].1, gs[j].2.1, gs[j].2.2 ++ [k])) (k + 1) (m + 1) := by
  have hm : ∀ {β : Type} (f : Gp → β), f (gs[j].1, gs[j].2.1, gs[j].2.2 ++ [k]) = f gs[j] → (gs.set j (gs[j].1, gs[j].2.1, gs[j].2.2 ++ [k])).map f = gs.map f := fun f hf => by
    rw [List.map_set, hf]
    apply List.ext_getElem
    · simp
    · intro i h1 h2
      rw [List.getElem_set]
      split
      · rename_i e; subst e; simp
      · rfl
  have hmem : ∀ g ∈ gs.set j (gs[j].1, gs[j].2.1, gs[j].2.2 ++ [k]), g = (gs[j].1, gs[j].2.1, gs[j].2.2 ++ [k]) ∨ (g ∈ gs ∧ g.1 ≠ gs[j].1) := fun g hg => by
    obtain ⟨i, hi, rfl⟩ := List.mem_iff_getElem.1 hg
    rw [List.length_set] at hi
    rw [List.getElem_set]
    by_cases e : j = i
    · rw [if_pos e]; exact .inl rfl
    · rw [if_neg e]
      refine .inr ⟨List.getElem_mem hi, fun e2 => e ?_⟩
      have h3 : (gs.map (·.1))[i]'(by simpa using hi) = (gs.map (·.1))[j]'(by simpa using hj) := by simpa using e2
      exact ((List.getElem_inj h.keys).1 h3).symm
  refine ⟨by rw [hm _ rfl]; exact h.nd, fun g hg => ?_, by rw [hm _ rfl]; exact h.keys, fun g hg => ?_, fun i hi => ?_⟩
  · rcases hmem g hg with rfl | ⟨hg, _⟩
    · have := h.lt _ (List.getElem_mem hj); show gs[j].2.1 < m + 1; omega
    · have := h.lt g hg; omega
  · rcases hmem g hg with rfl | ⟨hg, hne⟩
    · show gs[j].2.2 ++ [k] = placesE l (k + 1) gs[j].1
      rw [placesE_yes hjk.symm, h.idx _ (List.getElem_mem hj)]
    · rw [h.idx g hg, placesE_no (fun e => hne (e.symm.trans hjk.symm))]
  · have key : ∀ d, (∃ g ∈ gs, g.1 = d) → ∃ g ∈ gs.set j (gs[j].1, gs[j].2.1, gs[j].2.2 ++ [k]), g.1 = d := fun d ⟨g, hg, hgd⟩ => by
      have : d ∈ (gs.set j (gs[j].1, gs[j].2.1, gs[j].2.2 ++ [k])).map (·.1) := by
        rw [hm _ rfl]; exact List.mem_map.2 ⟨g, hg, hgd⟩
      exact List.mem_map.1 this
    by_cases e : i = k
    · subst e; exact key _ ⟨gs[j], List.getElem_mem hj, hjk⟩
    · exact key _ (h.all i (by omega))
theorem byM_new (gs : List Gp) (d : D) (t k : Nat) (z : PV) : ((byM gs ++ [(PV.agg (dP d), z)]).set gs.length (PV.agg (dP d), PV.sl (.own (t + 6)) (isP [k]))) = byM (gs ++ [(d, t, [k])]) := by
  have hl : gs.length = (byM gs).length := by unfold byM mdP; simp
  rw [hl, List.set_append_right (h := Nat.le_refl _), Nat.sub_self]
  unfold byM mdP
  simp
theorem byM_old {gs : List Gp} {j k : Nat} (hj : j < gs.length) : (byM gs).set j (PV.agg (dP gs[j].1), PV.sl (.own (gs[j].2.1 + 6)) (isP (gs[j].2.2 ++ [k]))) = byM (gs.set j (gs[j].1, gs[j].2.1, gs[j].2.2 ++ [k])) := by
  unfold byM mdP
  rw [List.map_set, List.map_set]
theorem byM_at {gs : List Gp} {j : Nat} (hj : j < gs.length) : (byM gs)[j]? = some (.agg (dP gs[j].1), .sl (.own (gs[j].2.1 + 6)) (isP gs[j].2.2)) := by
  unfold byM mdP
  simp [hj]
end Go.Proofs.YtjokaennipmmaaaDoor
