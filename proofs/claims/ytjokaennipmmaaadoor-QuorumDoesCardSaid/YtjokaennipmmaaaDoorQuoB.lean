import Derived.Test.YtjokaennipmmaaaDoorQuoA
/- Who agrees: the program's map of who signed, walked over plain values. -/
namespace Go.Proofs.YtjokaennipmmaaaDoor
open Go.RowKit
set_option linter.unnecessarySimpa false
theorem insL_new {R : List (Nat × HC)} {k : Nat} {c : HC} {K : List (Nat × HC) → Prop} (h : ∀ p ∈ R, p.1 ≠ k) (hk : K (R ++ [(k, c)])) : insL R k c K := by
  induction R generalizing K with
  | nil => exact hk
  | cons p R ih =>
    obtain ⟨i, x⟩ := p
    unfold insL
    rw [nbeq_false (h (i, x) (by simp))]
    exact ih (fun p hp => h p (by simp [hp])) hk
theorem insL_at {R : List (Nat × HC)} {k : Nat} {c : HC} {K : List (Nat × HC) → Prop} {j : Nat} (hj : j < R.length) (hkj : (R[j]).1 = k) (h : (R.map (·.1)).Nodup) (hk : K (R.set j (k, c))) : insL R k c K := by
  induction R generalizing K j with
  | nil => simp at hj
  | cons p R ih =>
    obtain ⟨i, x⟩ := p
    unfold insL
    cases j with
    | zero =>
      have : i = k := hkj
      subst this
      rw [Nat.beq_refl]
      exact hk
    | succ j =>
      simp only [List.map_cons, List.nodup_cons] at h
      have hj' : j < R.length := by simpa using hj
      have hne : i ≠ k := fun e => h.1 (by
        rw [e, ← hkj]
        exact List.mem_map.2 ⟨R[j], List.getElem_mem hj', rfl⟩)
      rw [nbeq_false hne]
      exact ih hj' (by simpa using hkj) h.2 hk
theorem look_new {R : List (Nat × HC)} {k : Nat} {c : HC} (h : ∀ p ∈ R, p.1 ≠ k) : look (R ++ [(k, c)]) k = c := by
  induction R with
  | nil => simp [look]
  | cons p R ih =>
    obtain ⟨i, x⟩ := p
    show look ((i, x) :: (R ++ [(k, c)])) k = c
    unfold look
    rw [nbeq_false (fun e => h (i, x) (by simp) e.symm)]
    exact ih fun p hp => h p (by simp [hp])
theorem look_at {R : List (Nat × HC)} {k : Nat} {j : Nat} (hj : j < R.length) (hkj : (R[j]).1 = k) (h : (R.map (·.1)).Nodup) : look R k = (R[j]).2 := by
  induction R generalizing j with
  | nil => simp at hj
  | cons p R ih =>
    obtain ⟨i, x⟩ := p
    unfold look
    cases j with
    | zero =>
      have : i = k := hkj
      subst this
      rw [Nat.beq_refl]; rfl
    | succ j =>
      simp only [List.map_cons, List.nodup_cons] at h
      have hj' : j < R.length := by simpa using hj
      have hne : i ≠ k := fun e => h.1 (by
        rw [e, ← hkj]
        exact List.mem_map.2 ⟨R[j], List.getElem_mem hj', rfl⟩)
      rw [nbeq_false (fun e => hne e.symm)]
      exact ih hj' (by simpa using hkj) h.2
/-- Who signed, the number of the own row of its places (less 6), and the places. -/
abbrev Gp := D × Nat × List Nat
def rowsR (gs : List Gp) : List (Nat × HC) := gs.map fun g => (g.2.1 + 6, HC.row (isP g.2.2).length 3)
def byM (gs : List Gp) : List (PV × PV) := mdP (gs.map fun g => (g.1, PV.sl (.own (g.2.1 + 6)) (isP g.2.2)))
def byD (gs : List Gp) : List (PV × PV) := mdP (gs.map fun g => (g.1, PV.sl .any (isP g.2.2)))
def placesE (l : List Sd) (k : Nat) (d : D) : List Nat := (List.range k).filter fun i => decide ((l.getD i zeroSd).1 = d)
structure GsAt (l : List Sd) (gs : List Gp) (k m : Nat) : Prop where
  nd : (gs.map (·.2.1)).Nodup
  lt : ∀ g ∈ gs, g.2.1 < m
  keys : (gs.map (·.1)).Nodup
  idx : ∀ g ∈ gs, g.2.2 = placesE l k g.1
  all : ∀ i, i < k → ∃ g ∈ gs, g.1 = (l.getD i zeroSd).1
theorem GsAt.zero (l : List Sd) : GsAt l [] 0 0 := ⟨List.nodup_nil, fun g hg => (by cases hg), List.nodup_nil, fun g hg => (by cases hg), fun i hi => by omega⟩
theorem rowsR_ne {gs : List Gp} {m : Nat} (h : ∀ g ∈ gs, g.2.1 < m) : ∀ p ∈ rowsR gs, p.1 ≠ m + 6 := fun p hp => by
  obtain ⟨g, hg, rfl⟩ := List.mem_map.1 hp
  have := h g hg
  show g.2.1 + 6 ≠ m + 6
  omega
theorem hp5 (n np : Nat) (σ : List PV) (m : Nat) (a b c d e : HC) (R : List (Nat × HC)) (k : Nat) : (mkS n np σ m ((1, a) :: (2, b) :: (3, c) :: (4, d) :: (5, e) :: R)).hp (k + 6) = look R (k + 6) := by
  rw [mkS_hp, if_neg (by omega)]
  simp only [look]
  rw [nbeq_false (by omega : k + 6 ≠ 1), nbeq_false (by omega : k + 6 ≠ 2), nbeq_false (by omega : k + 6 ≠ 3), nbeq_false (by omega : k + 6 ≠ 4), nbeq_false (by omega : k + 6 ≠ 5)]
theorem insL_last {R : List (Nat × HC)} {k : Nat} {c c' : HC} {K : List (Nat × HC) → Prop} (h : ∀ p ∈ R, p.1 ≠ k) (hk : K (R ++ [(k, c')])) : insL (R ++ [(k, c)]) k c' K := by
  induction R generalizing K with
  | nil =>
    show insL [(k, c)] k c' K
    unfold insL
    rw [Nat.beq_refl]
    exact hk
  | cons p R ih =>
    obtain ⟨i, x⟩ := p
    show insL ((i, x) :: (R ++ [(k, c)])) k c' K
    unfold insL
    rw [nbeq_false (h (i, x) (by simp))]
    exact ih (fun p hp => h p (by simp [hp])) hk
theorem part_sd (s : Sd) {K : PV → Prop} (h : K (.agg (dP s.1))) : vcPart Tryd.prog 30 (sdP s) 0 K := by
  obtain ⟨sb, si, so, sp⟩ := s
  exact ⟨Nat.le_of_ble_eq_true rfl, h⟩
theorem rowsR_keys (gs : List Gp) : (rowsR gs).map (·.1) = (gs.map (·.2.1)).map (· + 6) := by
  unfold rowsR
  rw [List.map_map, List.map_map]; rfl
theorem rowsR_nodup {gs : List Gp} (h : (gs.map (·.2.1)).Nodup) : ((rowsR gs).map (·.1)).Nodup := by
  rw [rowsR_keys]
  rw [List.nodup_iff_pairwise_ne] at *
  exact List.Pairwise.map _ (fun a b hab e => hab (by omega)) h
theorem look_app {R R' : List (Nat × HC)} {k : Nat} (h : k ∈ R.map (·.1)) : look (R ++ R') k = look R k := by
  induction R with
  | nil => simp at h
  | cons p R ih =>
    obtain ⟨i, x⟩ := p
    show look ((i, x) :: (R ++ R')) k = look ((i, x) :: R) k
    unfold look
    by_cases e : k = i
    · subst e; rw [Nat.beq_refl]
    · rw [nbeq_false e]
      refine ih ?_
      rcases List.mem_map.1 h with ⟨q, hq, hqe⟩
      rcases List.mem_cons.1 hq with rfl | hq
      · exact absurd hqe.symm e
      · exact List.mem_map.2 ⟨q, hq, hqe⟩
theorem look_rows {gs : List Gp} (h : (gs.map (·.2.1)).Nodup) {g : Gp} (hg : g ∈ gs) : look (rowsR gs) (g.2.1 + 6) = .row (isP g.2.2).length 3 := by
  obtain ⟨j, hj, rfl⟩ := List.mem_iff_getElem.1 hg
  have hj' : j < (rowsR gs).length := by unfold rowsR; rw [List.length_map]; exact hj
  have e : (rowsR gs)[j] = (gs[j].2.1 + 6, HC.row (isP gs[j].2.2).length 3) := by simp [rowsR]
  rw [look_at hj' (by rw [e]) (rowsR_nodup h), e]
theorem mem_keys {gs : List Gp} {g : Gp} (hg : g ∈ gs) : g.2.1 + 6 ∈ (rowsR gs).map (·.1) := by
  rw [rowsR_keys, List.map_map]
  exact List.mem_map.2 ⟨g, hg, rfl⟩
theorem heapBnd_rows (m : Nat) : ∀ gs : List Gp, (∀ g ∈ gs, g.2.1 < m) → heapBnd (m + 6) (rowsR gs) = true
  | [], _ => rfl
  | g :: gs, h => by
    have h1 := h g (by simp)
    have h2 := heapBnd_rows m gs fun x hx => h x (by simp [hx])
    show (Nat.blt 0 (g.2.1 + 6) && Nat.blt (g.2.1 + 6) (m + 6) && true && heapBnd (m + 6) (rowsR gs)) = true
    have e1 : Nat.blt 0 (g.2.1 + 6) = true := by rw [Nat.blt_eq]; omega
    have e2 : Nat.blt (g.2.1 + 6) (m + 6) = true := by rw [Nat.blt_eq]; omega
    rw [h2, e1, e2]; rfl
theorem heapOk_rows {s : St} : ∀ gs : List Gp, (∀ g ∈ gs, s.hp (g.2.1 + 6) = .row (isP g.2.2).length 3) → heapOk s (rowsR gs)
  | [], _ => trivial
  | g :: gs, h => ⟨h g (by simp), heapOk_rows gs fun x hx => h x (by simp [hx])⟩
theorem byM_bnd {gs : List Gp} {m : Nat} (h : ∀ g ∈ gs, g.2.1 < m) : ((byM gs).all fun p => p.2.bnd0 (m + 6)) = true := by
  rw [List.all_eq_true]
  intro p hp
  unfold byM mdP at hp
  rw [List.map_map] at hp
  obtain ⟨g, hg, rfl⟩ := List.mem_map.1 hp
  show Nat.blt (g.2.1 + 6) (m + 6) = true
  rw [Nat.blt_eq]
  have := h g hg; omega
/-- A state with own rows says less. -/
theorem subR {s : St} {l : List PV} {m : Nat} {gs : List Gp} {a b c e : List PV} (h1 : slotsOk s 0 l) (h2 : l.all (PV.bnd (m + 6)) = true) (hnp : s.np = 0) (k1 : s.hp 1 = .cells a) (k2 : s.hp 2 = .cells b) (k3 : s.hp 3 = .cells c) (k4 : s.hp 4 = .mpo (byM gs)) (k5 : s.hp 5 = .cells e)
    (ha : a.all (PV.bnd1 (m + 6)) = true) (hb : b.all (PV.bnd1 (m + 6)) = true) (hc : c.all (PV.bnd1 (m + 6)) = true) (he : e.all (PV.bnd1 (m + 6)) = true) (kr : ∀ g ∈ gs, s.hp (g.2.1 + 6) = .row (isP g.2.2).length 3) (hlt : ∀ g ∈ gs, g.2.1 < m) :
    Sub s l (m + 6) ((1, .cells a) :: (2, .cells b) :: (3, .cells c) :: (4, .mpo (byM gs)) :: (5, .cells e) :: rowsR gs) := by
  refine ⟨h1, ⟨k1, k2, k3, k4, k5, heapOk_rows gs kr⟩, ?_⟩
  have e0 : Nat.blt s.np (m + 6) = true := by rw [hnp, Nat.blt_eq]; omega
  have e1 : ∀ i, 0 < i → i < 6 → (Nat.blt 0 i && Nat.blt i (m + 6)) = true := fun i h h' => by
    rw [Bool.and_eq_true, Nat.blt_eq, Nat.blt_eq]; omega
  simp only [heapBnd]
  rw [e0, h2, ha, hb, hc, he, byM_bnd hlt, heapBnd_rows m gs hlt, e1 1 (by omega) (by omega), e1 2 (by omega) (by omega), e1 3 (by omega) (by omega), e1 4 (by omega) (by omega), e1 5 (by omega) (by omega)]
  rfl
theorem placesE_yes {l : List Sd} {k : Nat} {d : D} (h : (l.getD k zeroSd).1 = d) : placesE l (k + 1) d = placesE l k d ++ [k] := by
  unfold placesE
  rw [List.range_succ, List.filter_append, List.filter_cons, if_pos (decide_eq_true h)]; rfl
theorem placesE_no {l : List Sd} {k : Nat} {d : D} (h : (l.getD k zeroSd).1 ≠ d) : placesE l (k + 1) d = placesE l k d := by
  unfold placesE
  rw [List.range_succ, List.filter_append, List.filter_cons, if_neg (by rw [decide_eq_false h]; decide)]; simp
theorem GsAt.newKey {l : List Sd} {gs : List Gp} {k m : Nat} (h : GsAt l gs k m) (hno : ∀ g ∈ gs, g.1 ≠ (l.getD k zeroSd).1) : GsAt l (gs ++ [((l.getD k zeroSd).1, m + 1, [k])]) (k + 1) (m + 2) := by
  refine ⟨?_, fun g hg => ?_, ?_, fun g hg => ?_, fun i hi => ?_⟩
  · rw [List.map_append, List.nodup_append]
    refine ⟨h.nd, by simp, fun a ha b hb e => ?_⟩
    obtain ⟨g, hg, rfl⟩ := List.mem_map.1 ha
    have := h.lt g hg
    simp at hb
    omega
  · rcases List.mem_append.1 hg with hg | hg
    · have := h.lt g hg; omega
    · obtain rfl := List.mem_singleton.1 hg
      show m + 1 < m + 2; omega
  · rw [List.map_append, List.nodup_append]
    refine ⟨h.keys, by simp, fun a ha b hb e => ?_⟩
    obtain ⟨g, hg, rfl⟩ := List.mem_map.1 ha
    simp at hb
    exact hno g hg (e.trans hb)
  · rcases List.mem_append.1 hg with hg | hg
    · rw [h.idx g hg, placesE_no (fun e => hno g hg e.symm)]
    · obtain rfl := List.mem_singleton.1 hg
      show [k] = placesE l (k + 1) (l.getD k zeroSd).1
      rw [placesE_yes rfl]
      have : placesE l k (l.getD k zeroSd).1 = [] := by
        unfold placesE
        rw [List.filter_eq_nil_iff]
        intro i hi he
        obtain ⟨g, hg, hgi⟩ := h.all i (List.mem_range.1 hi)
        exact hno g hg (hgi.trans (of_decide_eq_true he))
      rw [this]; rfl
  · by_cases e : i = k
    · subst e; exact ⟨_, List.mem_append_right _ (List.mem_singleton.2 rfl), rfl⟩
    · obtain ⟨g, hg, hgi⟩ := h.all i (by omega)
      exact ⟨g, List.mem_append_left _ hg, hgi⟩
theorem GsAt.oldKey {l : List Sd} {gs : List Gp} {k m j : Nat} (h : GsAt l gs k m) (hj : j < gs.length) (hjk : gs[j].1 = (l.getD k zeroSd).1) : GsAt l (gs.set j (gs[j].1, gs[j].2.1, gs[j].2.2 ++ [k])) (k + 1) (m + 1) := by
  have hm : ∀ {β : Type} (f : Gp → β), f (gs[j].1, gs[j].2.1, gs[j].2.2 ++ [k]) = f gs[j] → (gs.set j (gs[j].1, gs[j].2.1, gs[j].2.2 ++ [k])).map f = gs.map f := fun f hf => by
    rw [List.map_set, hf]
    apply List.ext_getElem
    · simp
    · intro i h1 h2
      rw [List.getElem_set]
      split
      · rename_i e; subst e; simp
      · rfl
  have hmem : ∀ g ∈ gs.set j (gs[j].1, gs[j].2.1, gs[j].2.2 ++ [k]), g = (gs[j].1, gs[j].2.1, gs[j].2.2 ++ [k]) ∨ (g ∈ gs ∧ g.1 ≠ gs[j].1) := fun g hg => by
    obtain ⟨i, hi, rfl⟩ := List.mem_iff_getElem.1 hg
    rw [List.length_set] at hi
    rw [List.getElem_set]
    by_cases e : j = i
    · rw [if_pos e]; exact .inl rfl
    · rw [if_neg e]
      refine .inr ⟨List.getElem_mem hi, fun e2 => e ?_⟩
      have h3 : (gs.map (·.1))[i]'(by simpa using hi) = (gs.map (·.1))[j]'(by simpa using hj) := by simpa using e2
      exact ((List.getElem_inj h.keys).1 h3).symm
  refine ⟨by rw [hm _ rfl]; exact h.nd, fun g hg => ?_, by rw [hm _ rfl]; exact h.keys, fun g hg => ?_, fun i hi => ?_⟩
  · rcases hmem g hg with rfl | ⟨hg, _⟩
    · have := h.lt _ (List.getElem_mem hj); show gs[j].2.1 < m + 1; omega
    · have := h.lt g hg; omega
  · rcases hmem g hg with rfl | ⟨hg, hne⟩
    · show gs[j].2.2 ++ [k] = placesE l (k + 1) gs[j].1
      rw [placesE_yes hjk.symm, h.idx _ (List.getElem_mem hj)]
    · rw [h.idx g hg, placesE_no (fun e => hne (e.symm.trans hjk.symm))]
  · have key : ∀ d, (∃ g ∈ gs, g.1 = d) → ∃ g ∈ gs.set j (gs[j].1, gs[j].2.1, gs[j].2.2 ++ [k]), g.1 = d := fun d ⟨g, hg, hgd⟩ => by
      have : d ∈ (gs.set j (gs[j].1, gs[j].2.1, gs[j].2.2 ++ [k])).map (·.1) := by
        rw [hm _ rfl]; exact List.mem_map.2 ⟨g, hg, hgd⟩
      exact List.mem_map.1 this
    by_cases e : i = k
    · subst e; exact key _ ⟨gs[j], List.getElem_mem hj, hjk⟩
    · exact key _ (h.all i (by omega))
theorem byM_new (gs : List Gp) (d : D) (t k : Nat) (z : PV) : ((byM gs ++ [(PV.agg (dP d), z)]).set gs.length (PV.agg (dP d), PV.sl (.own (t + 6)) (isP [k]))) = byM (gs ++ [(d, t, [k])]) := by
  have hl : gs.length = (byM gs).length := by unfold byM mdP; simp
  rw [hl, List.set_append_right (h := Nat.le_refl _), Nat.sub_self]
  unfold byM mdP
  simp
theorem byM_old {gs : List Gp} {j k : Nat} (hj : j < gs.length) : (byM gs).set j (PV.agg (dP gs[j].1), PV.sl (.own (gs[j].2.1 + 6)) (isP (gs[j].2.2 ++ [k]))) = byM (gs.set j (gs[j].1, gs[j].2.1, gs[j].2.2 ++ [k])) := by
  unfold byM mdP
  rw [List.map_set, List.map_set]
theorem byM_at {gs : List Gp} {j : Nat} (hj : j < gs.length) : (byM gs)[j]? = some (.agg (dP gs[j].1), .sl (.own (gs[j].2.1 + 6)) (isP gs[j].2.2)) := by
  unfold byM mdP
  simp [hj]
end Go.Proofs.YtjokaennipmmaaaDoor
/- Who agrees: the program's closure that asks of one builder, and remembers it, walked where it is called. -/
namespace Go.Proofs.YtjokaennipmmaaaDoor
open Go.RowKit
set_option linter.unnecessarySimpa false
def knP (msg : D) (l : List Sd) (kn : List D) : List (PV × PV) := mdP (kn.map fun d => (d, PV.v (.bool (agreesE d msg l))))
/-- What comes of asking: the answer, and that it is known. -/
inductive AskR (msg d : D) (l : List Sd) (M : Nat) (h1 h2 : List (Nat × HC)) (p : PV) (m : Nat) (h : List (Nat × HC)) : Prop
  | mk (kn : List D) (hp : p = .v (.bool (agreesE d msg l))) (hm : m = M) (hh : h = h1 ++ (6, .mp (knP msg l kn)) :: h2)
theorem known_at {msg d : D} {l : List Sd} {kn : List D} {j : Nat} (h : (kn.map fun d => (d, PV.v (.bool (agreesE d msg l)))).findIdx? (fun p => decide (d = p.1)) = some j) : j < kn.length ∧ (knP msg l kn)[j]? = some (.agg (dP d), .v (.bool (agreesE d msg l))) := by
  obtain ⟨hj0, hjd, -⟩ := List.findIdx?_eq_some_iff_getElem.1 h
  have hj : j < kn.length := by simpa using hj0
  have hk : d = kn[j] := by have := of_decide_eq_true hjd; simpa using this
  refine ⟨hj, ?_⟩
  unfold knP mdP
  rw [hk]
  simp [hj]
theorem known_new (msg d : D) (l : List Sd) (kn : List D) : mpSet (knP msg l kn) none (.agg (dP d)) (.v (.bool (agreesE d msg l))) = knP msg l (kn ++ [d]) := by
  unfold mpSet knP mdP
  simp
theorem places_at {l : List Sd} {gs : List Gp} {m0 j : Nat} {d : D} (hg : GsAt l gs l.length m0) (h : (gs.map fun g => (g.1, PV.sl .any (isP g.2.2))).findIdx? (fun p => decide (d = p.1)) = some j) : j < gs.length ∧ (byD gs)[j]? = some (.agg (dP d), .sl .any (isP (placesE l l.length d))) := by
  obtain ⟨hj0, hjd, -⟩ := List.findIdx?_eq_some_iff_getElem.1 h
  have hj : j < gs.length := by simpa using hj0
  have hk : d = gs[j].1 := by have := of_decide_eq_true hjd; simpa using this
  refine ⟨hj, ?_⟩
  rw [hk, ← hg.idx _ (List.getElem_mem hj)]
  unfold byD mdP
  simp [hj]
theorem places_none {l : List Sd} {gs : List Gp} {m0 : Nat} {d : D} (hg : GsAt l gs l.length m0) (h : (gs.map fun g => (g.1, PV.sl .any (isP g.2.2))).findIdx? (fun p => decide (d = p.1)) = none) : placesE l l.length d = [] := by
  unfold placesE
  rw [List.filter_eq_nil_iff]
  intro i hi he
  obtain ⟨g, hg2, hgi⟩ := hg.all i (List.mem_range.1 hi)
  have h2 := List.findIdx?_eq_none_iff.1 h (g.1, PV.sl .any (isP g.2.2)) (List.mem_map.2 ⟨g, hg2, rfl⟩)
  simp only [decide_eq_false_iff_not] at h2
  exact h2 (((of_decide_eq_true he).symm.trans hgi.symm))
theorem places_len {l : List Sd} {d : D} {ps : List Nat} (h : placesE l l.length d = ps) : ps.length ≤ l.length := by
  rw [← h]
  unfold placesE
  have := List.length_filter_le (fun i => decide ((l.getD i zeroSd).1 = d)) (List.range l.length)
  rwa [List.length_range] at this
theorem places_mem {l : List Sd} {d : D} {ps : List Nat} (h : placesE l l.length d = ps) {i : Nat} (hi : i < ps.length) : ps.getD i 0 < l.length ∧ (l.getD (ps.getD i 0) zeroSd).1 = d := by
  have e : ps.getD i 0 ∈ ps := by rw [List.getD_eq_getElem?_getD, List.getElem?_eq_getElem hi]; exact List.getElem_mem hi
  generalize ps.getD i 0 = x at *
  rw [← h] at e
  unfold placesE at e
  rw [List.mem_filter] at e
  exact ⟨List.mem_range.1 e.1, of_decide_eq_true e.2⟩
theorem places_not {l : List Sd} {d msg : D} {ps : List Nat} (h : placesE l l.length d = ps) (hn : ∀ i, i < ps.length → agE d msg (l.getD (ps.getD i 0) zeroSd) = false) : agreesE d msg l = false := by
  refine agrees_not fun i hi => ?_
  by_cases hd : (l.getD i zeroSd).1 = d
  · have hm : i ∈ ps := by
      rw [← h]
      unfold placesE
      rw [List.mem_filter]
      exact ⟨List.mem_range.2 hi, decide_eq_true hd⟩
    obtain ⟨j, hj, rfl⟩ := List.mem_iff_getElem.1 hm
    have := hn j hj
    rwa [show ps.getD j 0 = ps[j] by rw [List.getD_eq_getElem?_getD, List.getElem?_eq_getElem hj]; rfl] at this
  · unfold agE
    rw [decide_eq_false hd]; rfl
theorem byM_dem (gs : List Gp) : ((byM gs).map fun p => (p.1, p.2.dem1)) = byD gs := by
  unfold byM byD mdP
  simp [PV.dem1, Function.comp]
theorem byM_leaf (gs : List Gp) : ((byM gs).all fun p => p.2.leaf) = true := by
  rw [List.all_eq_true]
  intro p hp
  unfold byM mdP at hp
  rw [List.map_map] at hp
  obtain ⟨g, hg, rfl⟩ := List.mem_map.1 hp
  rfl

set_option maxRecDepth 100000 in
set_option maxHeartbeats 4000000 in
theorem s_askA (bs : List D) (need : Int) (msg d : D) (l : List Sd) (gs : List Gp) (m0 : Nat) (kn : List D) (hg : GsAt l gs l.length m0) (hl : l.length ≤ 1000000) (hs : ∀ s ∈ l, s.2.2.2.length ≤ 1000000) :
    SpecI (Ctx.mk Tryd.prog globX (0 + 1) Places) 22 [.agg (dP d), .ptr 7 0, .ptr 5 0, .ptr 2 0, .ptr 3 0] 9 ([(1, .cells (polP bs need)), (2, .cells (dP msg)), (3, .cells [.sl .any (sdsP l)]), (4, .mp (byD gs)), (5, .cells [.mp 4]), (6, .mp (knP msg l kn)), (7, .cells [.mp 6])] ++ [(8, .cells (dP d))])
      (AskR msg d l 10 [(1, .cells (polP bs need)), (2, .cells (dP msg)), (3, .cells [.sl .any (sdsP l)]), (4, .mp (byD gs)), (5, .cells [.mp 4])] ((7, .cells [.mp 6]) :: [(8, .cells (dP d))] ++ [(9, .cells (dP d))])) := by
  have hf1 := mapFind_D d (kn.map fun d => (d, PV.v (.bool (agreesE d msg l))))
  have hf2 := mapFind_D d (gs.map fun g => (g.1, PV.sl .any (isP g.2.2)))
  refine specI_of_body CX_mixed Tryd.func22 rfl (40) rfl (by decide) ?_
  refine go_ ?_
  cases e1 : (kn.map fun d => (d, PV.v (.bool (agreesE d msg l)))).findIdx? (fun p => decide (d = p.1)) with
  | some j =>
    rw [e1] at hf1
    obtain ⟨hj, hkj⟩ := known_at e1
    with_reducible apply run_y
    exact want_
    · intro K hK
      refine ev_ ?_
      refine ⟨_, some j, dP_flat d, hf1, _, _, hkj, ?_⟩
      refine ev_ ?_
      exact hK
    refine go_ ?_
    refine ev_ ?_
    exact ⟨kn, rfl, rfl, rfl⟩
  | none =>
    rw [e1] at hf1
    with_reducible apply run_y
    exact want_
    · intro K hK
      refine ev_ ?_
      refine ⟨_, none, dP_flat d, hf1, ?_⟩
      refine ev_ ?_
      exact hK
    refine goto_ 4 ?_
    refine c_seq_cut (fun q m h => q = [.top, .ptr 7 0, .ptr 5 0, .ptr 2 0, .ptr 3 0, .ptr 9 0, .v (.bool false), .v (.bool (agreesE d msg l))] ++ List.replicate (40 - 8) .top ∧ m = 10 ∧ h = [(1, .cells (polP bs need)), (2, .cells (dP msg)), (3, .cells [.sl .any (sdsP l)]), (4, .mp (byD gs)), (5, .cells [.mp 4]), (6, .mp (knP msg l kn)), (7, .cells [.mp 6])] ++ [(8, .cells (dP d))] ++ [(9, .cells (dP d))]) ?_ ?_
    · skip
      refine go_ ?_
      cases e2 : (gs.map fun g => (g.1, PV.sl .any (isP g.2.2))).findIdx? (fun p => decide (d = p.1)) with
      | some j =>
        rw [e2] at hf2
        obtain ⟨hj2, hpl⟩ := places_at hg e2
        generalize hps : placesE l l.length d = ps at *
        have hpm := fun i => places_mem hps (i := i)
        have hpn := fun h => places_not hps (msg := msg) h
        with_reducible apply run_y
        exact want_
        · intro K hK
          refine ev_ ?_
          refine ⟨_, some j, dP_flat d, hf2, _, _, hpl, ?_⟩
          refine ev_ ?_
          exact hK
        refine go_ ?_
        refine c_loop (fun f q m h => ∃ j : Nat, j ≤ ps.length ∧ (∀ i, i < j → agE d msg (l.getD (ps.getD i 0) zeroSd) = false) ∧ f = ps.length - j ∧ q = [.top, .ptr 7 0, .ptr 5 0, .ptr 2 0, .ptr 3 0, .ptr 9 0, .v (.bool false), .v (.bool false)] ++ List.replicate 13 .top ++ [.sl .any (isP ps), .v (.int .i64 ((isP ps).length : Int)), .v (.int .i64 (j : Int))] ++ List.replicate 16 .top ∧ m = 10 ∧ h = [(1, .cells (polP bs need)), (2, .cells (dP msg)), (3, .cells [.sl .any (sdsP l)]), (4, .mp (byD gs)), (5, .cells [.mp 4]), (6, .mp (knP msg l kn)), (7, .cells [.mp 6])] ++ [(8, .cells (dP d))] ++ [(9, .cells (dP d))])
          ⟨_, _, _, _, ?_, ?_, ⟨0, Nat.zero_le _, fun i hi => by omega, rfl, rfl, rfl, rfl⟩⟩ ?_
        · rfl
        · skip
          exact sub_
        · rintro f q m h hlen2 ⟨j, hj, hn, rfl, rfl, rfl, rfl⟩
          clear hlen2
          by_cases h1 : j < ps.length
          · have g1 : decide ((j : Int) < ((isP ps).length : Int)) = true := decide_eq_true (by rw [isP_len]; omega)
            have hat := isP_at h1
            obtain ⟨hi, hid⟩ := hpm j h1
            have hpl2 : ps.length ≤ 1000000 := Nat.le_trans (places_len hps) hl
            have hw : IntKind.i64.wrap ((j : Int) + 1) = ((j + 1 : Nat) : Int) := by rw [wrap64 (by omega) (by omega)]; omega
            have hnext : agE d msg (l.getD (ps.getD j 0) zeroSd) = false → ∀ i, i < j + 1 → agE d msg (l.getD (ps.getD i 0) zeroSd) = false := fun h i hi => by
              by_cases e : i = j
              · subst e; exact h
              · exact hn i (by omega)
            generalize ps.getD j 0 = x at *
            have hsl := hs _ (sd_mem hi)
            have hyes := agrees_yes (b := d) (msg := msg) hi
            have hat2 := sdsP_at hi
            generalize l.getD x zeroSd = s at *
            obtain ⟨sb, si, so, sp⟩ := s
            replace hid : sb = d := hid
            subst hid
            rw [agE_eq, decide_eq_true rfl, Bool.true_and] at hyes hnext
            have hk := s_kcheck sb msg (si, so, sp) hsl
            refine go_ ?_
            with_reducible apply run_y
            exact want_
            · intro K hK
              refine ev_ ?_
              refine ⟨j, _, rfl, hat, rfl, ?_⟩
              refine ev_ ?_
              exact hK
            refine go_ ?_
            with_reducible apply run_y
            exact want_
            · intro K hK
              refine ev_ ?_
              refine ⟨x, _, rfl, hat2, rfl, ?_⟩
              refine ev_ ?_
              exact hK
            refine go_ ?_
            with_reducible apply run_y
            exact want_
            · intro K hK
              refine ev_ ?_
              refine vcCall_plain (hk) (by kernel_rfl) ?_
              refine ev_ ?_
              exact hK
            refine go_ ?_
            cases e3 : kcheckE sb msg (si, so, sp)
            case false =>
              refine go_ ?_
              rw [hw]
              refine c_round ⟨_, _, _, _, ?_, ?_, ?_, ⟨j + 1, h1, hnext e3, rfl, rfl, rfl, rfl⟩⟩
              · omega
              · rfl
              · skip
                exact sub_
            case true =>
              rw [hyes e3]
              refine go_ ?_
              refine c_cut ⟨_, _, _, ?_, ?_, rfl, rfl, rfl⟩
              · rfl
              · exact sub_
          · have hjl : j = ps.length := by omega
            subst hjl
            have g1 : decide (((ps.length : Nat) : Int) < ((isP ps).length : Int)) = false := decide_eq_false (by rw [isP_len]; omega)
            rw [hpn hn]
            refine go_ ?_
            refine c_cut ⟨_, _, _, ?_, ?_, rfl, rfl, rfl⟩
            · rfl
            · exact sub_
      | none =>
        rw [e2] at hf2
        have hps := places_none hg e2
        have hpn := fun h => places_not hps (msg := msg) h
        with_reducible apply run_y
        exact want_
        · intro K hK
          refine ev_ ?_
          refine ⟨_, none, dP_flat d, hf2, ?_⟩
          refine ev_ ?_
          exact hK
        rw [hpn (fun i hi => by simp at hi)]
        refine go_ ?_
        refine c_loop (fun f q m h => f = 0 ∧ q = [.top, .ptr 7 0, .ptr 5 0, .ptr 2 0, .ptr 3 0, .ptr 9 0, .v (.bool false), .v (.bool false)] ++ List.replicate 13 .top ++ [.sl .full [], .v (.int .i64 0), .v (.int .i64 0)] ++ List.replicate 16 .top ∧ m = 10 ∧ h = [(1, .cells (polP bs need)), (2, .cells (dP msg)), (3, .cells [.sl .any (sdsP l)]), (4, .mp (byD gs)), (5, .cells [.mp 4]), (6, .mp (knP msg l kn)), (7, .cells [.mp 6])] ++ [(8, .cells (dP d))] ++ [(9, .cells (dP d))])
          ⟨_, _, _, _, ?_, ?_, ⟨rfl, rfl, rfl, rfl⟩⟩ ?_
        · rfl
        · skip
          exact sub_
        · rintro f q m h hlen2 ⟨rfl, rfl, rfl, rfl⟩
          refine go_ ?_
          refine c_cut ⟨_, _, _, ?_, ?_, rfl, rfl, rfl⟩
          · rfl
          · exact sub_
    rintro q m h hlen ⟨rfl, rfl, rfl⟩
    clear hlen
    refine go_ ?_
    with_reducible apply run_y
    exact want_
    · intro K hK
      refine ev_ ?_
      refine ⟨_, none, dP_flat d, hf1, ?_⟩
      refine ev_ ?_
      exact hK
    conv =>
      pattern (HC.mp (mpSet _ _ _ _))
      change HC.mp (mpSet (knP msg l kn) none (PV.agg (dP d)) (PV.v (.bool (agreesE d msg l))))
    rw [known_new]
    refine go_ ?_
    refine ev_ ?_
    exact ⟨kn ++ [d], rfl, rfl, rfl⟩

set_option maxRecDepth 100000 in
set_option maxHeartbeats 4000000 in
theorem s_askB (bs : List D) (need : Int) (msg d : D) (l : List Sd) (gs : List Gp) (m0 : Nat) (kn : List D) (who : List Nat) (hg : GsAt l gs l.length m0) (hl : l.length ≤ 1000000) (hs : ∀ s ∈ l, s.2.2.2.length ≤ 1000000) :
    SpecI (Ctx.mk Tryd.prog globX (0 + 1) Places) 22 [.agg (dP d), .ptr 7 0, .ptr 5 0, .ptr 2 0, .ptr 3 0] 12 ([(1, .cells (polP bs need)), (2, .cells (dP msg)), (3, .cells [.sl .any (sdsP l)]), (4, .mp (byD gs)), (5, .cells [.mp 4]), (6, .mp (knP msg l kn)), (7, .cells [.mp 6])] ++ [(10, .row (isP who).length 3), (11, .cells (dP d))])
      (AskR msg d l 13 [(1, .cells (polP bs need)), (2, .cells (dP msg)), (3, .cells [.sl .any (sdsP l)]), (4, .mp (byD gs)), (5, .cells [.mp 4])] ((7, .cells [.mp 6]) :: [(10, .row (isP who).length 3), (11, .cells (dP d))] ++ [(12, .cells (dP d))])) := by
  have hf1 := mapFind_D d (kn.map fun d => (d, PV.v (.bool (agreesE d msg l))))
  have hf2 := mapFind_D d (gs.map fun g => (g.1, PV.sl .any (isP g.2.2)))
  refine specI_of_body CX_mixed Tryd.func22 rfl (40) rfl (by decide) ?_
  refine go_ ?_
  cases e1 : (kn.map fun d => (d, PV.v (.bool (agreesE d msg l)))).findIdx? (fun p => decide (d = p.1)) with
  | some j =>
    rw [e1] at hf1
    obtain ⟨hj, hkj⟩ := known_at e1
    with_reducible apply run_y
    exact want_
    · intro K hK
      refine ev_ ?_
      refine ⟨_, some j, dP_flat d, hf1, _, _, hkj, ?_⟩
      refine ev_ ?_
      exact hK
    refine go_ ?_
    refine ev_ ?_
    exact ⟨kn, rfl, rfl, rfl⟩
  | none =>
    rw [e1] at hf1
    with_reducible apply run_y
    exact want_
    · intro K hK
      refine ev_ ?_
      refine ⟨_, none, dP_flat d, hf1, ?_⟩
      refine ev_ ?_
      exact hK
    refine goto_ 4 ?_
    refine c_seq_cut (fun q m h => q = [.top, .ptr 7 0, .ptr 5 0, .ptr 2 0, .ptr 3 0, .ptr 12 0, .v (.bool false), .v (.bool (agreesE d msg l))] ++ List.replicate (40 - 8) .top ∧ m = 13 ∧ h = [(1, .cells (polP bs need)), (2, .cells (dP msg)), (3, .cells [.sl .any (sdsP l)]), (4, .mp (byD gs)), (5, .cells [.mp 4]), (6, .mp (knP msg l kn)), (7, .cells [.mp 6])] ++ [(10, .row (isP who).length 3), (11, .cells (dP d))] ++ [(12, .cells (dP d))]) ?_ ?_
    · skip
      refine go_ ?_
      cases e2 : (gs.map fun g => (g.1, PV.sl .any (isP g.2.2))).findIdx? (fun p => decide (d = p.1)) with
      | some j =>
        rw [e2] at hf2
        obtain ⟨hj2, hpl⟩ := places_at hg e2
        generalize hps : placesE l l.length d = ps at *
        have hpm := fun i => places_mem hps (i := i)
        have hpn := fun h => places_not hps (msg := msg) h
        with_reducible apply run_y
        exact want_
        · intro K hK
          refine ev_ ?_
          refine ⟨_, some j, dP_flat d, hf2, _, _, hpl, ?_⟩
          refine ev_ ?_
          exact hK
        refine go_ ?_
        refine c_loop (fun f q m h => ∃ j : Nat, j ≤ ps.length ∧ (∀ i, i < j → agE d msg (l.getD (ps.getD i 0) zeroSd) = false) ∧ f = ps.length - j ∧ q = [.top, .ptr 7 0, .ptr 5 0, .ptr 2 0, .ptr 3 0, .ptr 12 0, .v (.bool false), .v (.bool false)] ++ List.replicate 13 .top ++ [.sl .any (isP ps), .v (.int .i64 ((isP ps).length : Int)), .v (.int .i64 (j : Int))] ++ List.replicate 16 .top ∧ m = 13 ∧ h = [(1, .cells (polP bs need)), (2, .cells (dP msg)), (3, .cells [.sl .any (sdsP l)]), (4, .mp (byD gs)), (5, .cells [.mp 4]), (6, .mp (knP msg l kn)), (7, .cells [.mp 6])] ++ [(10, .row (isP who).length 3), (11, .cells (dP d))] ++ [(12, .cells (dP d))])
          ⟨_, _, _, _, ?_, ?_, ⟨0, Nat.zero_le _, fun i hi => by omega, rfl, rfl, rfl, rfl⟩⟩ ?_
        · rfl
        · skip
          exact sub_
        · rintro f q m h hlen2 ⟨j, hj, hn, rfl, rfl, rfl, rfl⟩
          clear hlen2
          by_cases h1 : j < ps.length
          · have g1 : decide ((j : Int) < ((isP ps).length : Int)) = true := decide_eq_true (by rw [isP_len]; omega)
            have hat := isP_at h1
            obtain ⟨hi, hid⟩ := hpm j h1
            have hpl2 : ps.length ≤ 1000000 := Nat.le_trans (places_len hps) hl
            have hw : IntKind.i64.wrap ((j : Int) + 1) = ((j + 1 : Nat) : Int) := by rw [wrap64 (by omega) (by omega)]; omega
            have hnext : agE d msg (l.getD (ps.getD j 0) zeroSd) = false → ∀ i, i < j + 1 → agE d msg (l.getD (ps.getD i 0) zeroSd) = false := fun h i hi => by
              by_cases e : i = j
              · subst e; exact h
              · exact hn i (by omega)
            generalize ps.getD j 0 = x at *
            have hsl := hs _ (sd_mem hi)
            have hyes := agrees_yes (b := d) (msg := msg) hi
            have hat2 := sdsP_at hi
            generalize l.getD x zeroSd = s at *
            obtain ⟨sb, si, so, sp⟩ := s
            replace hid : sb = d := hid
            subst hid
            rw [agE_eq, decide_eq_true rfl, Bool.true_and] at hyes hnext
            have hk := s_kcheck sb msg (si, so, sp) hsl
            refine go_ ?_
            with_reducible apply run_y
            exact want_
            · intro K hK
              refine ev_ ?_
              refine ⟨j, _, rfl, hat, rfl, ?_⟩
              refine ev_ ?_
              exact hK
            refine go_ ?_
            with_reducible apply run_y
            exact want_
            · intro K hK
              refine ev_ ?_
              refine ⟨x, _, rfl, hat2, rfl, ?_⟩
              refine ev_ ?_
              exact hK
            refine go_ ?_
            with_reducible apply run_y
            exact want_
            · intro K hK
              refine ev_ ?_
              refine vcCall_plain (hk) (by kernel_rfl) ?_
              refine ev_ ?_
              exact hK
            refine go_ ?_
            cases e3 : kcheckE sb msg (si, so, sp)
            case false =>
              refine go_ ?_
              rw [hw]
              refine c_round ⟨_, _, _, _, ?_, ?_, ?_, ⟨j + 1, h1, hnext e3, rfl, rfl, rfl, rfl⟩⟩
              · omega
              · rfl
              · skip
                exact sub_
            case true =>
              rw [hyes e3]
              refine go_ ?_
              refine c_cut ⟨_, _, _, ?_, ?_, rfl, rfl, rfl⟩
              · rfl
              · exact sub_
          · have hjl : j = ps.length := by omega
            subst hjl
            have g1 : decide (((ps.length : Nat) : Int) < ((isP ps).length : Int)) = false := decide_eq_false (by rw [isP_len]; omega)
            rw [hpn hn]
            refine go_ ?_
            refine c_cut ⟨_, _, _, ?_, ?_, rfl, rfl, rfl⟩
            · rfl
            · exact sub_
      | none =>
        rw [e2] at hf2
        have hps := places_none hg e2
        have hpn := fun h => places_not hps (msg := msg) h
        with_reducible apply run_y
        exact want_
        · intro K hK
          refine ev_ ?_
          refine ⟨_, none, dP_flat d, hf2, ?_⟩
          refine ev_ ?_
          exact hK
        rw [hpn (fun i hi => by simp at hi)]
        refine go_ ?_
        refine c_loop (fun f q m h => f = 0 ∧ q = [.top, .ptr 7 0, .ptr 5 0, .ptr 2 0, .ptr 3 0, .ptr 12 0, .v (.bool false), .v (.bool false)] ++ List.replicate 13 .top ++ [.sl .full [], .v (.int .i64 0), .v (.int .i64 0)] ++ List.replicate 16 .top ∧ m = 13 ∧ h = [(1, .cells (polP bs need)), (2, .cells (dP msg)), (3, .cells [.sl .any (sdsP l)]), (4, .mp (byD gs)), (5, .cells [.mp 4]), (6, .mp (knP msg l kn)), (7, .cells [.mp 6])] ++ [(10, .row (isP who).length 3), (11, .cells (dP d))] ++ [(12, .cells (dP d))])
          ⟨_, _, _, _, ?_, ?_, ⟨rfl, rfl, rfl, rfl⟩⟩ ?_
        · rfl
        · skip
          exact sub_
        · rintro f q m h hlen2 ⟨rfl, rfl, rfl, rfl⟩
          refine go_ ?_
          refine c_cut ⟨_, _, _, ?_, ?_, rfl, rfl, rfl⟩
          · rfl
          · exact sub_
    rintro q m h hlen ⟨rfl, rfl, rfl⟩
    clear hlen
    refine go_ ?_
    with_reducible apply run_y
    exact want_
    · intro K hK
      refine ev_ ?_
      refine ⟨_, none, dP_flat d, hf1, ?_⟩
      refine ev_ ?_
      exact hK
    conv =>
      pattern (HC.mp (mpSet _ _ _ _))
      change HC.mp (mpSet (knP msg l kn) none (PV.agg (dP d)) (PV.v (.bool (agreesE d msg l))))
    rw [known_new]
    refine go_ ?_
    refine ev_ ?_
    exact ⟨kn ++ [d], rfl, rfl, rfl⟩
end Go.Proofs.YtjokaennipmmaaaDoor
/- Who agrees: quorum.Who, whole. -/
namespace Go.Proofs.YtjokaennipmmaaaDoor
open Go.RowKit
set_option linter.unnecessarySimpa false
set_option maxRecDepth 100000 in
set_option maxHeartbeats 2000000 in
theorem s_who (bs : List D) (need : Int) (msg : D) (l : List Sd) (hb : bs.length ≤ 1000000) (hl : l.length ≤ 1000000) (hs : ∀ s ∈ l, s.2.2.2.length ≤ 1000000) : Spec (Ctx.mk Tryd.prog globX (0 + 1) Places) 17 [.agg (polP bs need), .agg (dP msg), .sl .any (sdsP l)] [] (.sl .any (isP (whoE bs msg l))) [] := by
  have hlen := dsP_len bs
  have hlen' := sdsP_len l
  show Spec _ _ _ _ (.sl .any (isP (whoUp bs msg l bs.length))) _
  refine spec_of_bodyL CX_mixed CX_gpk Tryd.func17 rfl 52 0 rfl rfl rfl rfl ?_
  refine goto_ 1 ?_
  repeat (first | with_reducible apply c_seq | with_reducible apply c_reg)
  with_reducible apply run_y
  exact want_
  · intro K hK
    conv => whnf
    refine Or.inr ?_
    refine ev_ ?_
    exact hK
  refine goto_ 2 ?_
  refine c_seq_cut (fun q m h => ∃ (gs : List Gp) (m0 : Nat), GsAt l gs l.length m0 ∧ q = [.top, .top, .top, .ptr 1 0, .ptr 2 0, .ptr 3 0, .sl .full [], .ptr 5 0] ++ List.replicate 44 .top ∧ m = 6 ∧ h = [(1, .cells (polP bs need)), (2, .cells (dP msg)), (3, .cells [.sl .any (sdsP l)]), (4, .mp (byD gs)), (5, .cells [.mp 4])]) ?_ ?_
  rotate_left
  · rintro q m h hlen2 ⟨gs, m0, hg, rfl, rfl, rfl⟩
    clear hlen2
    refine go_ ?_
    refine c_loop (fun f q m h => ∃ (i : Nat) (κ : K) (kn : List D), i ≤ bs.length ∧ f = bs.length - i ∧ q = [.top, .top, .top, .ptr 1 0, .ptr 2 0, .ptr 3 0, .sl .full [], .ptr 5 0, .top, .top, .ptr 7 0, .clo 22 [.ptr 7 0, .ptr 5 0, .ptr 2 0, .ptr 3 0], .sl κ (isP (whoUp bs msg l i))] ++ List.replicate 23 .top ++ [.sl .any (dsP bs), .v (.int .i64 ((dsP bs).length : Int)), .v (.int .i64 (i : Int))] ++ List.replicate 13 .top ∧
        ((whoUp bs msg l i = [] ∧ κ = .full ∧ m = 8 ∧ h = [(1, .cells (polP bs need)), (2, .cells (dP msg)), (3, .cells [.sl .any (sdsP l)]), (4, .mp (byD gs)), (5, .cells [.mp 4]), (6, .mp (knP msg l kn)), (7, .cells [.mp 6])]) ∨
         (κ = .own 10 ∧ m = 11 ∧ h = [(1, .cells (polP bs need)), (2, .cells (dP msg)), (3, .cells [.sl .any (sdsP l)]), (4, .mp (byD gs)), (5, .cells [.mp 4]), (6, .mp (knP msg l kn)), (7, .cells [.mp 6]), (10, .row (isP (whoUp bs msg l i)).length 3)])))
      ⟨_, _, _, _, ?_, ?_, ⟨0, .full, [], Nat.zero_le _, rfl, rfl, .inl ⟨rfl, rfl, rfl, rfl⟩⟩⟩ ?_
    · rfl
    · skip
      exact sub_
    · rintro f q m h hlen2 ⟨i, κ, kn, hi, rfl, rfl, hc⟩
      clear hlen2
      by_cases h1 : i < bs.length
      · have g1 : decide ((i : Int) < ((dsP bs).length : Int)) = true := decide_eq_true (by rw [hlen]; omega)
        have hw : IntKind.i64.wrap ((i : Int) + 1) = ((i + 1 : Nat) : Int) := by rw [wrap64 (by omega) (by omega)]; omega
        have hup := whoUp_len bs msg l i
        have hyes := whoUp_yes (bs := bs) (msg := msg) (l := l) (i := i)
        have hno := whoUp_no (bs := bs) (msg := msg) (l := l) (i := i)
        rcases hc with ⟨h0, rfl, rfl, rfl⟩ | ⟨rfl, rfl, rfl⟩
        · have hask := s_askA bs need msg (bs.getD i D.zero) l gs m0 kn hg hl hs
          refine goto_ 13 ?_
          with_reducible apply c_seq
          with_reducible apply c_regI
          with_reducible apply runI_y
          exact want_
          exact step_
          with_reducible apply runI_y
          exact want_
          exact step_
          refine runI_inl _ _ _ want_ (by (conv => whnf); exact ⟨by kernel_rfl, rfl, rfl⟩) rfl rfl hask ?_
          rintro p m' h' ⟨kn', rfl, rfl, rfl⟩
          simp only [putL, setL, List.replicate_succ, List.replicate_zero]
          with_reducible apply runI_end
          cases e1 : agreesE (bs.getD i D.zero) msg l
          · replace hno := hno e1
            refine go_ ?_
            rw [hw]
            refine c_round ⟨_, _, _, _, ?_, ?_, ?_, ⟨i + 1, .full, kn', h1, rfl, by rw [hno], .inl ⟨hno.trans h0, rfl, rfl, rfl⟩⟩⟩
            · omega
            · rfl
            · skip
              exact sub_
          · replace hyes := hyes e1
            rw [h0] at hyes ⊢
            refine go_ ?_
            with_reducible apply run_y
            exact want_
            · intro K hK
              refine ev_ ?_
              refine ⟨isP ([] ++ [i]), isP_app [] [i], appOk_is (l := []) (l' := [i]) rfl rfl rfl (by simp), ?_⟩
              conv => whnf
              refine Or.inl ?_
              refine ev_ ?_
              exact hK
            refine go_ ?_
            rw [hw]
            refine c_round ⟨_, _, _, _, ?_, ?_, ?_, ⟨i + 1, .own 10, kn', h1, rfl, by rw [hyes], .inr ⟨rfl, rfl, by rw [hyes]⟩⟩⟩
            · omega
            · rfl
            · skip
              exact sub_
        · have hask := s_askB bs need msg (bs.getD i D.zero) l gs m0 kn (whoUp bs msg l i) hg hl hs
          refine goto_ 13 ?_
          with_reducible apply c_seq
          with_reducible apply c_regI
          with_reducible apply runI_y
          exact want_
          exact step_
          with_reducible apply runI_y
          exact want_
          exact step_
          refine runI_inl _ _ _ want_ (by (conv => whnf); exact ⟨by kernel_rfl, rfl, rfl⟩) rfl rfl hask ?_
          rintro p m' h' ⟨kn', rfl, rfl, rfl⟩
          simp only [putL, setL, List.replicate_succ, List.replicate_zero]
          with_reducible apply runI_end
          cases e1 : agreesE (bs.getD i D.zero) msg l
          · replace hno := hno e1
            refine go_ ?_
            rw [hw]
            refine c_round ⟨_, _, _, _, ?_, ?_, ?_, ⟨i + 1, .own 10, kn', h1, rfl, by rw [hno], .inr ⟨rfl, rfl, by rw [hno]⟩⟩⟩
            · omega
            · rfl
            · skip
              exact sub_
          · replace hyes := hyes e1
            refine go_ ?_
            with_reducible apply run_y
            exact want_
            · intro K hK
              refine ev_ ?_
              refine ⟨isP (whoUp bs msg l i ++ [i]), isP_app _ [i], appOk_is (l' := [i]) rfl rfl rfl (by simp; omega), ?_⟩
              refine ev_ ?_
              exact hK
            refine go_ ?_
            rw [hw]
            refine c_round ⟨_, _, _, _, ?_, ?_, ?_, ⟨i + 1, .own 10, kn', h1, rfl, by rw [hyes], .inr ⟨rfl, rfl, by rw [hyes]⟩⟩⟩
            · omega
            · rfl
            · skip
              exact sub_
      · have hil : i = bs.length := by omega
        subst hil
        have g1 : decide (((bs.length : Nat) : Int) < ((dsP bs).length : Int)) = false := decide_eq_false (by rw [hlen]; omega)
        rcases hc with ⟨h0, rfl, rfl, rfl⟩ | ⟨rfl, rfl, rfl⟩
        · skip
          refine go_ ?_
          refine ev_ ?_
          exact .mk (by rfl) trivial
        · skip
          refine go_ ?_
          refine ev_ ?_
          exact .mk (by rfl) trivial
  refine go_ ?_
  refine c_loop (fun f q m h => ∃ (k : Nat) (gs : List Gp) (m0 : Nat), k ≤ l.length ∧ GsAt l gs k m0 ∧ f = l.length - k ∧ q = [.top, .top, .top, .ptr 1 0, .ptr 2 0, .ptr 3 0, .sl .full [], .ptr 5 0] ++ List.replicate 8 .top ++ [.sl .any (sdsP l), .v (.int .i64 ((sdsP l).length : Int)), .v (.int .i64 (k : Int))] ++ List.replicate 33 .top ∧ m = m0 + 6 ∧
      h = (1, .cells (polP bs need)) :: (2, .cells (dP msg)) :: (3, .cells [.sl .any (sdsP l)]) :: (4, .mpo (byM gs)) :: (5, .cells [.mp 4]) :: rowsR gs)
    ⟨_, _, _, _, ?_, ?_, ⟨0, [], 0, Nat.zero_le _, .zero l, rfl, rfl, rfl, rfl⟩⟩ ?_
  · rfl
  · skip
    exact sub_
  · rintro f q m h hlen2 ⟨k, gs, m0, hk, hg, rfl, rfl, rfl, rfl⟩
    clear hlen2
    by_cases h1 : k < l.length
    · have g1 : decide ((k : Int) < ((sdsP l).length : Int)) = true := decide_eq_true (by rw [hlen']; omega)
      have hat := sdsP_at h1
      have hne := rowsR_ne hg.lt
      have hw : IntKind.i64.wrap ((k : Int) + 1) = ((k + 1 : Nat) : Int) := by rw [wrap64 (by omega) (by omega)]; omega
      generalize hsk : l.getD k zeroSd = s at *
      obtain ⟨sb, si, so, sp⟩ := s
      refine go_ ?_
      with_reducible apply run_y
      exact want_
      · intro K hK
        refine ev_ ?_
        refine ⟨k, _, rfl, hat, rfl, ?_⟩
        refine ev_ ?_
        exact hK
      refine go_ ?_
      with_reducible apply run_y
      exact want_
      · intro K hK
        conv => whnf
        refine And.intro (by kernel_rfl) (Or.inl ?_)
        conv => whnf
        refine insL_new hne ?_
        refine ev_ ?_
        exact hK
      refine go_ ?_
      with_reducible apply run_y
      exact want_
      · intro K hK
        conv => whnf
        rw [hp5, look_new hne]
        conv => whnf
        refine And.intro (by omega) (And.intro rfl (And.intro (by decide) (And.intro rfl ?_)))
        conv => whnf
        refine insL_last (c' := .cells (sdP (sb, si, so, sp))) hne ?_
        refine ev_ ?_
        exact hK
      refine go_ ?_
      with_reducible apply run_y
      exact want_
      · intro K hK
        conv => whnf
        rw [hp5, look_new hne]
        refine And.intro (by omega) (part_sd (sb, si, so, sp) ?_)
        refine ev_ ?_
        exact hK
      refine go_ ?_
      have hfind := mapFind_D sb (gs.map fun g => (g.1, PV.sl (.own (g.2.1 + 6)) (isP g.2.2)))
      cases hf : (gs.map fun g => (g.1, PV.sl (.own (g.2.1 + 6)) (isP g.2.2))).findIdx? (fun p => decide (sb = p.1)) with
      | none =>
        rw [hf] at hfind
        have hne2 : ∀ c : HC, ∀ p ∈ rowsR gs ++ [(m0 + 6, c)], p.1 ≠ m0 + 6 + 1 := fun c p hp => by
          rcases List.mem_append.1 hp with hp | hp
          · obtain ⟨g, hg2, rfl⟩ := List.mem_map.1 hp
            have := hg.lt g hg2
            show g.2.1 + 6 ≠ m0 + 6 + 1
            omega
          · obtain rfl := List.mem_singleton.1 hp
            show m0 + 6 ≠ m0 + 6 + 1
            omega
        have hno : ∀ g ∈ gs, g.1 ≠ sb := fun g hg2 e => by
          have h2 := List.findIdx?_eq_none_iff.1 hf (g.1, PV.sl (.own (g.2.1 + 6)) (isP g.2.2)) (List.mem_map.2 ⟨g, hg2, rfl⟩)
          simp only [decide_eq_false_iff_not] at h2
          exact h2 e.symm
        have hnew := hg.newKey (by rw [hsk]; exact hno)
        rw [hsk] at hnew
        have hbl : (byM gs).length = gs.length := by unfold byM mdP; simp
        have hbn := byM_new gs sb (m0 + 1) k (.sl .full [])
        have hgl : (byM gs ++ [(PV.agg (dP sb), PV.sl .full [])])[gs.length]? = some (PV.agg (dP sb), PV.sl .full []) := by
          rw [← hbl, List.getElem?_append_right (Nat.le_refl _)]; simp
        with_reducible apply run_y
        exact want_
        · intro K hK
          refine ev_ ?_
          refine ⟨_, none, dP_flat sb, hfind, ?_⟩
          refine ev_ ?_
          exact hK
        conv =>
          pattern (HC.mpo (_ ++ _))
          change HC.mpo (byM gs ++ [(PV.agg (dP sb), PV.sl .full [])])
        rw [hbl]
        refine go_ ?_
        with_reducible apply run_y
        exact want_
        · intro K hK
          refine ev_ ?_
          refine ⟨isP ([] ++ [k]), isP_app [] [k], appOk_is (l := []) (l' := [k]) rfl rfl rfl (by simp), ?_⟩
          conv => whnf
          refine Or.inl ?_
          conv => whnf
          refine insL_new (hne2 _) ?_
          refine ev_ ?_
          exact hK
        refine go_ ?_
        with_reducible apply run_y
        exact want_
        · intro K hK
          refine ev_ ?_
          refine ⟨gs.length, _, _, rfl, hgl, ?_⟩
          refine ev_ ?_
          exact hK
        conv =>
          pattern (HC.mpo (List.set _ _ _))
          change HC.mpo ((byM gs ++ [(PV.agg (dP sb), PV.sl .full [])]).set gs.length (PV.agg (dP sb), PV.sl (.own (m0 + 1 + 6)) (isP [k])))
        rw [hbn]
        refine go_ ?_
        rw [hw]
        refine c_round ⟨_, _, _, _, ?_, ?_, ?_, ⟨k + 1, _, m0 + 2, h1, hnew, rfl, rfl, rfl, rfl⟩⟩
        · omega
        · rfl
        · refine subR ?_ rfl rfl rfl rfl rfl rfl rfl rfl rfl rfl rfl (fun g hg2 => ?_) hnew.lt
          · conv => whnf
            all_goals (repeat (first | exact trivial | (refine And.intro (by ((conv => lhs; whnf) <;> first | with_reducible rfl | assumption | (refine val64 ?_ ?_ <;> omega) | rfl)) ?_; conv => whnf)))
          · rw [hp5]
            rcases List.mem_append.1 hg2 with hg2 | hg2
            · rw [look_app (by rw [List.map_append]; exact List.mem_append_left _ (mem_keys hg2)), look_app (mem_keys hg2)]
              exact look_rows hg.nd hg2
            · obtain rfl := List.mem_singleton.1 hg2
              exact look_new (hne2 _)
      | some j =>
        rw [hf] at hfind
        obtain ⟨hj0, hjd, -⟩ := List.findIdx?_eq_some_iff_getElem.1 hf
        have hj : j < gs.length := by simpa using hj0
        have hjk : gs[j].1 = sb := by
          have := of_decide_eq_true hjd
          simpa using this.symm
        have hold := hg.oldKey hj (by rw [hsk]; exact hjk)
        have hbo := byM_old (k := k) hj
        have hba := byM_at hj
        have hrow := look_rows hg.nd (List.getElem_mem hj)
        have hmk := mem_keys (List.getElem_mem hj)
        have hlen3 : gs[j].2.2.length ≤ k := by
          rw [hg.idx _ (List.getElem_mem hj)]
          unfold placesE
          have := List.length_filter_le (fun i => decide ((l.getD i zeroSd).1 = gs[j].1)) (List.range k)
          rwa [List.length_range] at this
        have hset : ∀ c : HC, (rowsR gs ++ [(m0 + 6, c)]).set j (gs[j].2.1 + 6, HC.row (isP (gs[j].2.2 ++ [k])).length 3) = rowsR (gs.set j (gs[j].1, gs[j].2.1, gs[j].2.2 ++ [k])) ++ [(m0 + 6, c)] := fun c => by
          rw [List.set_append_left (h := by unfold rowsR; rw [List.length_map]; exact hj)]
          unfold rowsR
          rw [List.map_set]
        have hnd2 : ∀ c : HC, ((rowsR gs ++ [(m0 + 6, c)]).map (·.1)).Nodup := fun c => by
          rw [List.map_append, List.nodup_append]
          refine ⟨rowsR_nodup hg.nd, by simp, fun a ha b hb e => ?_⟩
          obtain ⟨p, hp, rfl⟩ := List.mem_map.1 ha
          simp at hb
          exact hne p hp (e.trans hb)
        have hkj : ∀ c : HC, ∀ h : j < (rowsR gs ++ [(m0 + 6, c)]).length, ((rowsR gs ++ [(m0 + 6, c)])[j]'h).1 = gs[j].2.1 + 6 := fun c h => by
          rw [List.getElem_append_left (by unfold rowsR; rw [List.length_map]; exact hj)]
          simp [rowsR]
        have hjl : ∀ c : HC, j < (rowsR gs ++ [(m0 + 6, c)]).length := fun c => by
          rw [List.length_append]; unfold rowsR; rw [List.length_map]; simp; omega
        rw [hjk] at hold hbo hba hset
        generalize gs[j].2.1 = t at *
        generalize gs[j].2.2 = is at *
        have hga : ((byM gs).set j (PV.agg (dP sb), PV.sl (.own (t + 6)) (isP is)))[j]? = some (PV.agg (dP sb), PV.sl (.own (t + 6)) (isP is)) := List.getElem?_set_self (List.getElem?_eq_some_iff.1 hba).1
        with_reducible apply run_y
        exact want_
        · intro K hK
          refine ev_ ?_
          refine ⟨_, some j, dP_flat sb, hfind, _, _, hba, ?_⟩
          refine ev_ ?_
          exact hK
        conv =>
          pattern (HC.mpo (List.set _ _ _))
          change HC.mpo ((byM gs).set j (PV.agg (dP sb), PV.sl (.own (t + 6)) (isP is)))
        refine go_ ?_
        with_reducible apply run_y
        exact want_
        · intro K hK
          refine ev_ ?_
          refine ⟨isP (is ++ [k]), isP_app is [k], appOk_is (l := is) (l' := [k]) rfl rfl rfl (by simp; omega), ?_⟩
          conv => whnf
          refine And.intro (by omega) (And.intro (by rw [hp5, look_app hmk]; exact hrow) ?_)
          conv => whnf
          refine insL_at (j := j) (hjl _) (hkj _ _) (hnd2 _) ?_
          rw [hset]
          refine ev_ ?_
          exact hK
        refine go_ ?_
        with_reducible apply run_y
        exact want_
        · intro K hK
          refine ev_ ?_
          refine ⟨j, _, _, rfl, hga, ?_⟩
          refine ev_ ?_
          exact hK
        conv =>
          pattern (HC.mpo (List.set _ _ _))
          change HC.mpo (((byM gs).set j (PV.agg (dP sb), PV.sl (.own (t + 6)) (isP is))).set j (PV.agg (dP sb), PV.sl (.own (t + 6)) (isP (is ++ [k]))))
        rw [List.set_set, hbo]
        refine go_ ?_
        rw [hw]
        refine c_round ⟨_, _, _, _, ?_, ?_, ?_, ⟨k + 1, _, m0 + 1, h1, hold, rfl, rfl, rfl, rfl⟩⟩
        · omega
        · rfl
        · refine subR ?_ rfl rfl rfl rfl rfl rfl rfl rfl rfl rfl rfl (fun g hg2 => ?_) hold.lt
          · conv => whnf
            all_goals (repeat (first | exact trivial | (refine And.intro (by ((conv => lhs; whnf) <;> first | with_reducible rfl | assumption | (refine val64 ?_ ?_ <;> omega) | rfl)) ?_; conv => whnf)))
          · rw [hp5, look_app (mem_keys hg2)]
            exact look_rows hold.nd hg2
    · have hkl : k = l.length := by omega
      subst hkl
      have g1 : decide (((l.length : Nat) : Int) < ((sdsP l).length : Int)) = false := decide_eq_false (by rw [hlen']; omega)
      refine go_ ?_
      refine c_cut ⟨_, _, _, ?_, ?_, gs, m0, hg, rfl, rfl, rfl⟩
      · rfl
      · refine ⟨?_, ⟨rfl, rfl, rfl, ⟨byM_dem gs, byM_leaf gs⟩, rfl, trivial⟩, rfl⟩
        conv => whnf
        all_goals (repeat (first | exact trivial | (refine And.intro (by ((conv => lhs; whnf) <;> first | with_reducible rfl | assumption | (refine val64 ?_ ?_ <;> omega) | rfl)) ?_; conv => whnf)))
end Go.Proofs.YtjokaennipmmaaaDoor
