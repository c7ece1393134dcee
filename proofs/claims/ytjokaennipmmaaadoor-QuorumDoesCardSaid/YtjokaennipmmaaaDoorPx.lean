import Derived.Test.YtjokaennipmmaaaDoorPm
import Derived.Test.YtjokaennipmmaaaDoorB1
import Derived.Test.YtjokaennipmmaaaDoorStrs
import Derived.Test.YtjokaennipmmaaaDoorSto
/- The machine of plain values over this program; digests, strings and stores as its values. -/
namespace Go.Proofs.YtjokaennipmmaaaDoor
open Go.RowKit
def globX (g : Nat) : PV :=
  match Nat.beq g 0 with
  | true => .ro [.v (.int .i64 7), .v (.int .i64 9), .v (.int .i64 13), .v (.int .i64 18)]
  | false => .top
theorem CX_mixed : Tryd.prog.follows .mixedOrders = true := by kernel_rfl
theorem CX_gpk (w w' : World) (h : ∀ k, k < 0 + 1 → w'.heap[k]? = w.heap[k]?) (hp : Places w) : Places w' := by
  have hb := h 0 (Nat.lt_succ_self _)
  refine ⟨?_, fun j hj => (World.cell?_of_block hb).trans (hp.2 j hj)⟩
  rcases Nat.lt_or_ge 0 w'.heap.size with hlt | hge
  · exact hlt
  · exfalso
    rw [Array.getElem?_eq_none hge, Array.getElem?_eq_getElem hp.1] at hb
    cases hb
/-- A digest's cells; a string's; a store. -/
def dP (d : D) : List PV := [.v (u (d.1.getD 0 0)), .v (u (d.1.getD 1 0)), .v (u (d.1.getD 2 0)), .v (u (d.1.getD 3 0))]
def sP (s : ByteArray) : List PV := [.v (.string s)]
def ssP (l : List ByteArray) : List (List PV) := l.map sP
def dsP (l : List D) : List (List PV) := l.map dP
theorem us_eq4 (d : D) : us d.1 = #[u (d.1.getD 0 0), u (d.1.getD 1 0), u (d.1.getD 2 0), u (d.1.getD 3 0)] := by
  obtain ⟨l, hl⟩ := d
  match l, hl with
  | [a, b, c, e], _ => rfl
theorem dP_flat (d : D) : (PV.agg (dP d)).flat = some (.agg (us d.1)) := by rw [us_eq4]; rfl
theorem rep_dP {E : Env} {d : D} {x : Value} (r : Rep E (.agg (dP d)) x) : x = .agg (us d.1) := r.flat (dP_flat d)
theorem rep_D (E : Env) (d : D) : Rep E (.agg (dP d)) (.agg (us d.1)) := by
  rw [us_eq4]
  refine .agg _ _ rfl fun i hi => ?_
  have hi : i < 4 := hi
  match i, hi with
  | 0, _ => exact .v _
  | 1, _ => exact .v _
  | 2, _ => exact .v _
  | 3, _ => exact .v _
theorem wrap64 {x : Int} (h1 : -9223372036854775808 ≤ x) (h2 : x < 9223372036854775808) : IntKind.i64.wrap x = x := by rw [IntKind.wrap_i64]; omega
theorem val64 {x : Int} {n : Nat} (h : x = n) (hn : n < 9223372036854775808) : PV.v (.int .i64 (IntKind.i64.wrap x)) = .v (.int .i64 (n : Int)) := by rw [h, wrap64 (by omega) (by omega)]
theorem ssP_len (l : List ByteArray) : (ssP l).length = l.length := List.length_map _
theorem dsP_len (l : List D) : (dsP l).length = l.length := List.length_map _
theorem ssP_at {l : List ByteArray} {j : Nat} (h : j < l.length) : (ssP l)[j]? = some (sP (l.getD j ByteArray.empty)) := by simp [ssP, List.getD, h]
theorem ssP_getD {l : List ByteArray} {j : Nat} (h : j < l.length) : (ssP l).getD j [] = sP (l.getD j ByteArray.empty) := by simp [ssP, List.getD, h]
theorem dsP_getD {l : List D} {j : Nat} (h : j < l.length) : (dsP l).getD j [] = dP (l.getD j D.zero) := by simp [dsP, List.getD, h]
theorem dsP_at {l : List D} {j : Nat} (h : j < l.length) : (dsP l)[j]? = some (dP (l.getD j D.zero)) := by simp [dsP, List.getD, h]
theorem ssP_app (l l' : List ByteArray) : ssP l ++ ssP l' = ssP (l ++ l') := by simp [ssP]
theorem dsP_app (l l' : List D) : dsP l ++ dsP l' = dsP (l ++ l') := by simp [dsP]
theorem ssP_wide (l : List ByteArray) (i : Nat) (h : i < (ssP l).length) : ((ssP l).getD i []).length = 1 := by
  rw [ssP_getD (by rw [ssP_len] at h; exact h)]; rfl
theorem dsP_wide (l : List D) (i : Nat) (h : i < (dsP l).length) : ((dsP l).getD i []).length = 4 := by
  rw [dsP_getD (by rw [dsP_len] at h; exact h)]; rfl
theorem ssP_cut (l : List ByteArray) (a b : Nat) : ((ssP l).drop a).take (b - a) = ssP ((l.drop a).take (b - a)) := by simp [ssP, List.map_take, List.map_drop]
theorem dsP_cut (l : List D) (a b : Nat) : ((dsP l).drop a).take (b - a) = dsP ((l.drop a).take (b - a)) := by simp [dsP, List.map_take, List.map_drop]
theorem ssP_take (l : List ByteArray) (n : Nat) : ((ssP l).drop 0).take (n - 0) = ssP (l.take n) := by simp [ssP, List.map_take]
theorem dsP_take (l : List D) (n : Nat) : ((dsP l).drop 0).take (n - 0) = dsP (l.take n) := by simp [dsP, List.map_take]
theorem ssP_all (l : List ByteArray) : ((ssP l).drop 0).take ((ssP l).length - 0) = ssP l := by simp
theorem appOk_ss {zs sz by_ : Nat} {l l' : List ByteArray} (hz : zs = 1) (hs : sz = 1) (hb : by_ = 16) (h : l.length + l'.length ≤ 1000000000) : AppOk zs sz by_ (ssP l) (ssP l') := by
  subst hz hs hb
  exact ⟨rfl, by omega, ssP_wide l, ssP_wide l', by rw [ssP_len, ssP_len]; simp only [maxLen]; omega, by rw [ssP_len, ssP_len]; omega⟩
theorem appOk_ds {zs sz by_ : Nat} {l l' : List D} (hz : zs = 4) (hs : sz = 4) (hb : by_ = 16) (h : l.length + l'.length ≤ 1000000000) : AppOk zs sz by_ (dsP l) (dsP l') := by
  subst hz hs hb
  exact ⟨rfl, by omega, dsP_wide l, dsP_wide l', by rw [dsP_len, dsP_len]; simp only [maxLen]; omega, by rw [dsP_len, dsP_len]; omega⟩
end Go.Proofs.YtjokaennipmmaaaDoor
/- What was proved of functions by walks over the model, as sayings of the machine of plain values. -/
namespace Go.Proofs.YtjokaennipmmaaaDoor
open Go.RowKit
theorem repC0 {E : Env} {vs : Array Value} (h : RepC E [] vs) : vs = #[] := Array.eq_empty_of_size_eq_zero h.1.symm
theorem repC1 {E : Env} {p : PV} {vs : Array Value} (h : RepC E [p] vs) : ∃ x, vs = #[x] ∧ Rep E p x := by
  obtain ⟨hl, h⟩ := h
  refine ⟨vs.getD 0 undef, ?_, h 0 (by simp)⟩
  apply Array.ext
  · exact hl.symm
  · intro i hi _
    have : i = 0 := by simp at hl; omega
    subst this
    simp [Array.getD, hi]
theorem repC2 {E : Env} {p q : PV} {vs : Array Value} (h : RepC E [p, q] vs) : ∃ x y, vs = #[x, y] ∧ Rep E p x ∧ Rep E q y := by
  obtain ⟨hl, h⟩ := h
  refine ⟨vs.getD 0 undef, vs.getD 1 undef, ?_, h 0 (by simp), h 1 (by simp)⟩
  apply Array.ext
  · exact hl.symm
  · intro i hi _
    simp at hl
    have : i = 0 ∨ i = 1 := by omega
    rcases this with rfl | rfl <;> simp [Array.getD, hi]
theorem repC3 {E : Env} {p q r : PV} {vs : Array Value} (h : RepC E [p, q, r] vs) : ∃ x y z, vs = #[x, y, z] ∧ Rep E p x ∧ Rep E q y ∧ Rep E r z := by
  obtain ⟨hl, h⟩ := h
  refine ⟨vs.getD 0 undef, vs.getD 1 undef, vs.getD 2 undef, ?_, h 0 (by simp), h 1 (by simp), h 2 (by simp)⟩
  apply Array.ext
  · exact hl.symm
  · intro i hi _
    simp at hl
    have : i = 0 ∨ i = 1 ∨ i = 2 := by omega
    rcases this with rfl | rfl | rfl <;> simp [Array.getD, hi]
theorem rep_ss {E : Env} (hF : ∀ g i, E.F g i → g < E.w.heap.size) {k : K} {l : List ByteArray} {x : Value} (r : Rep E (.sl k (ssP l)) x) : ∃ A c, x = .slice A l.length c ∧ SlS E.w A l.length c l := by
  generalize hes : ssP l = es at r
  cases r with
  | sl _ _ A c g o sz val h1 h2 h3 h4 h5 h6 hc hr =>
    subst hes
    rw [ssP_len] at h1 h5 hc hr ⊢
    refine ⟨A, c, rfl, h1, h2, rfl, fun hn => ?_⟩
    have hA := h6 (fun e => by have := ssP_len l; rw [e] at this; simp at this; omega)
    have hsz : sz = 1 := by
      have := h5 0 hn
      rw [ssP_getD hn] at this
      exact this.symm
    subst hsz
    refine ⟨g, o, hA, hF _ _ (hc 0 0 hn (by omega)).2.1, fun i hi => ?_⟩
    have h7 := (hc i 0 hi (by omega)).1
    have h8 := hr i 0 hi (by omega)
    rw [ssP_getD hi] at h8
    have h9 := h8.v_eq
    rw [h9] at h7
    simpa using h7
theorem rep_ds {E : Env} (hF : ∀ g i, E.F g i → g < E.w.heap.size) {k : K} {l : List D} {x : Value} (r : Rep E (.sl k (dsP l)) x) : ∃ A c, x = .slice A l.length c ∧ SlD E.w A l.length c l := by
  generalize hes : dsP l = es at r
  cases r with
  | sl _ _ A c g o sz val h1 h2 h3 h4 h5 h6 hc hr =>
    subst hes
    rw [dsP_len] at h1 h5 hc hr ⊢
    refine ⟨A, c, rfl, h1, h2, rfl, fun hn => ?_⟩
    have hA := h6 (fun e => by have := dsP_len l; rw [e] at this; simp at this; omega)
    have hsz : sz = 4 := by
      have := h5 0 hn
      rw [dsP_getD hn] at this
      exact this.symm
    subst hsz
    refine ⟨g, o, hA, hF _ _ (hc 0 0 hn (by omega)).2.1, fun i k hi hk => ?_⟩
    have h7 := (hc i k hi hk).1
    have h8 := hr i k hi hk
    rw [dsP_getD hi] at h8
    have h9 : val i k = u ((l.getD i D.zero).1.getD k 0) := by
      generalize l.getD i D.zero = d at *
      have : k = 0 ∨ k = 1 ∨ k = 2 ∨ k = 3 := by omega
      rcases this with rfl | rfl | rfl | rfl <;> exact h8.v_eq
    rw [h9] at h7
    exact h7
theorem rep_st {E : Env} (hF : ∀ g i, E.F g i → g < E.w.heap.size) {k : K} {l : List ByteArray} {x : Value} (r : Rep E (.agg [.sl k (ssP l)]) x) : ∃ A c, x = .agg #[.slice A l.length c] ∧ SlS E.w A l.length c l := by
  obtain ⟨vs, rfl, h⟩ := RepC.of_agg r
  obtain ⟨y, rfl, hy⟩ := repC1 h
  obtain ⟨A, c, rfl, hs⟩ := rep_ss hF hy
  exact ⟨A, c, rfl, hs⟩
theorem rep_v {E : Env} {y : Value} {x : Value} (r : Rep E (.v y) x) : x = y := r.v_eq
/-- A head. -/
def hP (k : Int) (d : D) : List PV := .v (.int .i64 k) :: dP d
theorem hdC_eq (k : Int) (d : D) : hdC k d = #[.int .i64 k, u (d.1.getD 0 0), u (d.1.getD 1 0), u (d.1.getD 2 0), u (d.1.getD 3 0)] := by
  obtain ⟨l, hl⟩ := d
  match l, hl with
  | [a, b, c, e], _ => rfl
theorem hP_flat (k : Int) (d : D) : (PV.agg (hP k d)).flat = some (.agg (hdC k d)) := by rw [hdC_eq]; rfl
theorem rep_hP {E : Env} {k : Int} {d : D} {x : Value} (r : Rep E (.agg (hP k d)) x) : x = .agg (hdC k d) := r.flat (hP_flat k d)
theorem rep_H (E : Env) (k : Int) (d : D) : Rep E (.agg (hP k d)) (.agg (hdC k d)) := by
  rw [hdC_eq]
  refine .agg _ _ rfl fun i hi => ?_
  have hi : i < 5 := hi
  match i, hi with
  | 0, _ => exact .v _
  | 1, _ => exact .v _
  | 2, _ => exact .v _
  | 3, _ => exact .v _
  | 4, _ => exact .v _
/-- A contract that gives back one value, whatever the world. -/
theorem spec_val {f : FuncId} {ars : List PV} {r : PV} {x : Value} (hr : r.plain = true) (hx : ∀ E, Rep E r x) (h : ∀ (E : Env) (vs : Array Value), Places E.w → (∀ g i, E.F g i → g < E.w.heap.size) → RepC E ars vs → Calls Tryd.prog f vs E.w fun e w' => e = .returned x ∧ Grow E.w w') :
    Spec (Ctx.mk Tryd.prog globX (0 + 1) Places) f ars [] r [] := by
  intro w F β vs hgp _ _ hargs _ hF _ hβ _
  refine (h ⟨w, F, β, fun _ => none⟩ vs hgp hF hargs).mono ?_
  rintro e w' ⟨rfl, hg⟩
  exact ⟨x, F, rfl, hg.os, hg.tape, hg.output, hg.size, fun k hk _ => hg.block k hk, fun _ _ h => h, fun _ _ h => .inl h, hr, hx _, rfl, fun j hj => by simp at hj⟩
/-- A contract that gives back a new row of digests, and some plain values. -/
theorem rep_own {w w' : World} {F : Nat → Nat → Prop} {β : Nat → Option Nat} {v : Value} {n : Nat} {l : List D} (h : w'.ownsRow w.heap.size 30 4 v n (dcells l)) : Rep ⟨w', fun g i => F g i ∨ (w.heap.size ≤ g ∧ g < w'.heap.size), β, fun _ => none⟩ (.sl .any (dsP l)) v := by
  obtain ⟨A, c, rfl, hs, hb⟩ := SlD.of_own' h
  have hs' := hs
  obtain ⟨h1, h2, h3, h4⟩ := hs
  subst h3
  by_cases hn : 0 < l.length
  · obtain ⟨g, o, rfl, hg, hc⟩ := h4 hn
    have := hb g o rfl
    have key := Rep.sl (E := ⟨w', fun g i => F g i ∨ (w.heap.size ≤ g ∧ g < w'.heap.size), β, fun _ => none⟩) .any (dsP l) (some ⟨g, o, none⟩) c g o 4 (fun i j => u ((l.getD i D.zero).1.getD j 0)) (by rw [dsP_len]; exact h1) h2 (fun h => by cases h) (fun t h => by cases h)
      (fun i hi => by rw [getD_eq hi]; simp [dsP, dP]) (fun _ => rfl) (fun i j hi hj => ⟨hc i j (by rw [dsP_len] at hi; exact hi) hj, .inr ⟨this, hg⟩, rfl⟩) (fun i j hi hj => by
        have hi' : i < l.length := by rw [dsP_len] at hi; exact hi
        rw [dsP_getD hi']
        generalize l.getD i D.zero = d
        have : j = 0 ∨ j = 1 ∨ j = 2 ∨ j = 3 := by omega
        rcases this with rfl | rfl | rfl | rfl <;> exact .v _)
    rw [dsP_len] at key
    exact key
  · have hl : l = [] := List.eq_nil_of_length_eq_zero (by omega)
    subst hl
    exact .sl .any [] A c 0 0 4 (fun _ _ => undef) h1 h2 (fun h => by cases h) (fun t h => by cases h) (fun i hi => by simp at hi) (fun h => absurd rfl h) (fun i j hi => by simp at hi) (fun i j hi => by simp at hi)
theorem spec_row {f : FuncId} {ars : List PV} {l : List D} (h : ∀ (E : Env) (vs : Array Value), Places E.w → (∀ g i, E.F g i → g < E.w.heap.size) → RepC E ars vs → Calls Tryd.prog f vs E.w fun e w' => ∃ v n, e = .returned v ∧ w'.ownsRow E.w.heap.size 30 4 v n (dcells l) ∧ Grow E.w w') :
    Spec (Ctx.mk Tryd.prog globX (0 + 1) Places) f ars [] (.sl .any (dsP l)) [] := by
  intro w F β vs hgp _ _ hargs _ hF _ hβ _
  refine (h ⟨w, F, β, fun _ => none⟩ vs hgp hF hargs).mono ?_
  rintro e w' ⟨v, n, rfl, ho, hg⟩
  exact ⟨v, fun g i => F g i ∨ (w.heap.size ≤ g ∧ g < w'.heap.size), rfl, hg.os, hg.tape, hg.output, hg.size, fun k hk _ => hg.block k hk, fun _ _ h => .inl h, fun _ _ h => h, rfl, rep_own ho, rfl, fun j hj => by simp at hj⟩
theorem spec_row2 {f : FuncId} {ars : List PV} {l : List D} {z : Int} (h : ∀ (E : Env) (vs : Array Value), Places E.w → (∀ g i, E.F g i → g < E.w.heap.size) → RepC E ars vs → Calls Tryd.prog f vs E.w fun e w' => ∃ v n, e = .returned (.tuple #[v, .int .i64 z]) ∧ w'.ownsRow E.w.heap.size 30 4 v n (dcells l) ∧ Grow E.w w') :
    Spec (Ctx.mk Tryd.prog globX (0 + 1) Places) f ars [] (.tup [.sl .any (dsP l), .v (.int .i64 z)]) [] := by
  intro w F β vs hgp _ _ hargs _ hF _ hβ _
  refine (h ⟨w, F, β, fun _ => none⟩ vs hgp hF hargs).mono ?_
  rintro e w' ⟨v, n, rfl, ho, hg⟩
  refine ⟨_, fun g i => F g i ∨ (w.heap.size ≤ g ∧ g < w'.heap.size), rfl, hg.os, hg.tape, hg.output, hg.size, fun k hk _ => hg.block k hk, fun _ _ h => .inl h, fun _ _ h => h, rfl, .tup _ _ rfl fun i hi => ?_, rfl, fun j hj => by simp at hj⟩
  have hi : i < 2 := hi
  match i, hi with
  | 0, _ => exact rep_own ho
  | 1, _ => exact .v _
theorem s_rof (s : ByteArray) (hm : s.size ≤ 1000000) : Spec (Ctx.mk Tryd.prog globX (0 + 1) Places) 43 [.v (.string s)] [] (.agg (dP (digE s))) [] :=
  spec_val rfl (fun E => rep_D E _) fun E vs hp _ ha => by
    obtain ⟨x, rfl, r⟩ := repC1 ha
    rw [rep_v r]
    exact rof_s s E.w hm
theorem s_pair (a b : D) : Spec (Ctx.mk Tryd.prog globX (0 + 1) Places) 53 [.agg (dP a), .agg (dP b)] [] (.agg (dP (pairE a b))) [] :=
  spec_val rfl (fun E => rep_D E _) fun E vs hp _ ha => by
    obtain ⟨x, y, rfl, r1, r2⟩ := repC2 ha
    rw [rep_dP r1, rep_dP r2]
    exact pair_c a b E.w hp
theorem s_rpair (a b : D) : Spec (Ctx.mk Tryd.prog globX (0 + 1) Places) 45 [.agg (dP a), .agg (dP b)] [] (.agg (dP (pairE a b))) [] :=
  spec_val rfl (fun E => rep_D E _) fun E vs hp _ ha => by
    obtain ⟨x, y, rfl, r1, r2⟩ := repC2 ha
    rw [rep_dP r1, rep_dP r2]
    exact rpair_c a b E.w
theorem s_half (n : Nat) (h2 : 2 ≤ n) (hm : n ≤ 1000000) : Spec (Ctx.mk Tryd.prog globX (0 + 1) Places) 54 [.v (.int .i64 (n : Int))] [] (.v (.int .i64 (halfE n : Int))) [] :=
  spec_val rfl (fun E => .v _) fun E vs hp _ ha => by
    obtain ⟨x, rfl, r⟩ := repC1 ha
    rw [rep_v r]
    exact (half_c n E.w h2 hm).mono fun e w' h => ⟨h.1, h.2 ▸ Grow.refl _⟩
theorem s_rhalf (n : Nat) (h2 : 2 ≤ n) (hm : n ≤ 1000000) : Spec (Ctx.mk Tryd.prog globX (0 + 1) Places) 44 [.v (.int .i64 (n : Int))] [] (.v (.int .i64 (halfE n : Int))) [] :=
  spec_val rfl (fun E => .v _) fun E vs hp _ ha => by
    obtain ⟨x, rfl, r⟩ := repC1 ha
    rw [rep_v r]
    exact (rhalf_c n E.w h2 hm).mono fun e w' h => ⟨h.1, h.2 ▸ Grow.refl _⟩
theorem s_rroot (l : List D) (hm : l.length ≤ 1000000) : Spec (Ctx.mk Tryd.prog globX (0 + 1) Places) 30 [.sl .any (dsP l)] [] (.agg (dP (rootE noneE l))) [] :=
  spec_val rfl (fun E => rep_D E _) fun E vs hp hF ha => by
    obtain ⟨x, rfl, r⟩ := repC1 ha
    obtain ⟨A, c, rfl, hs⟩ := rep_ds hF r
    exact rroot_c l.length l.length (Nat.le_refl _) hm A c l E.w hp hs
end Go.Proofs.YtjokaennipmmaaaDoor
/- What was proved of store and head by walks over the model, as sayings of the machine of plain values. -/
namespace Go.Proofs.YtjokaennipmmaaaDoor
open Go.RowKit
theorem rep_tup2 (E : Env) (x y : Value) : Rep E (.tup [.v x, .v y]) (.tuple #[x, y]) := .tup _ _ rfl fun i hi => by
  have hi : i < 2 := hi
  match i, hi with
  | 0, _ => exact .v _
  | 1, _ => exact .v _
end Go.Proofs.YtjokaennipmmaaaDoor
/- Comparisons of digests and heads; from a saying to a walk of the model. -/
namespace Go.Proofs.YtjokaennipmmaaaDoor
open Go.RowKit
theorem eq_D (a b : D) : EqSpec Tryd.prog 30 (.agg (us a.1)) (.agg (us b.1)) (decide (a = b)) := fun o o' w => ⟨by kernel_rfl, by kernel_rfl, eqin_D a b w⟩
/-- The cells of a world's blocks; none is written. -/
def allOf (w : World) : Env := ⟨w, fun g _ => g < w.heap.size, fun _ => none, fun _ => none⟩
theorem rep_glob (w : World) (hP : Places w) (g : Nat) : Rep (allOf w) (globX g) (.pointer (some ⟨g, 0, none⟩)) := by
  unfold globX
  split
  · rename_i e
    obtain rfl := Nat.eq_of_beq_eq_true e
    refine .ro _ _ 0 (fun i => .int .i64 ([7, 9, 13, 18].getD i 0)) (fun i hi => ?_) (fun i hi => ?_)
    · have hi : i < 4 := hi
      refine ⟨?_, hP.1, rfl⟩
      have h2 := hP.2
      show w.cell? ⟨_, 0 + i, none⟩ = _
      rw [Nat.zero_add]
      match i, hi with
      | 0, _ => exact h2 0 (by omega)
      | 1, _ => exact h2 1 (by omega)
      | 2, _ => exact h2 2 (by omega)
      | 3, _ => exact h2 3 (by omega)
    · have hi : i < 4 := hi
      match i, hi with
      | 0, _ => exact .v _
      | 1, _ => exact .v _
      | 2, _ => exact .v _
      | 3, _ => exact .v _
  · exact .top _
theorem sl_ss {w : World} {A : Option Addr} {n c : Nat} {l : List ByteArray} (h : SlS w A n c l) : Rep (allOf w) (.sl .any (ssP l)) (.slice A n c) := by
  obtain ⟨h1, h2, rfl, h4⟩ := h
  have key : ∀ g o, (0 < l.length → A = some ⟨g, o, none⟩ ∧ g < w.heap.size ∧ ∀ i, i < l.length → w.cell? ⟨g, o + i, none⟩ = some (.string (l.getD i ByteArray.empty))) → Rep (allOf w) (.sl .any (ssP l)) (.slice A l.length c) := fun g o h4 => by
    have := Rep.sl (E := allOf w) .any (ssP l) A c g o 1 (fun i _ => .string (l.getD i ByteArray.empty)) (by rw [ssP_len]; exact h1) h2 (fun h => by cases h) (fun t h => by cases h)
      (fun i hi => ssP_wide l i hi) (fun hne => (h4 (by cases l with | nil => exact absurd rfl hne | cons a l => simp)).1)
      (fun i j hi hj => by
        rw [ssP_len] at hi
        obtain ⟨_, hg, hc⟩ := h4 (by omega)
        have : j = 0 := by omega
        subst this
        exact ⟨by show w.cell? _ = _; simpa using hc i hi, hg, rfl⟩)
      (fun i j hi hj => by
        rw [ssP_len] at hi
        have : j = 0 := by omega
        subst this
        rw [ssP_getD hi]; exact .v _)
    rw [ssP_len] at this
    exact this
  by_cases hn : 0 < l.length
  · obtain ⟨g, o, h⟩ := h4 hn
    exact key g o fun _ => h
  · exact key 0 0 fun h => absurd h hn
theorem sl_st {w : World} {A : Option Addr} {n c : Nat} {l : List ByteArray} (h : SlS w A n c l) : Rep (allOf w) (.agg [.sl .any (ssP l)]) (.agg #[.slice A n c]) :=
  .agg _ _ rfl fun i hi => by
    have hi : i < 1 := hi
    match i, hi with
    | 0, _ => exact sl_ss h
theorem sl_ds {w : World} {A : Option Addr} {n c : Nat} {l : List D} (h : SlD w A n c l) : Rep (allOf w) (.sl .any (dsP l)) (.slice A n c) := by
  obtain ⟨h1, h2, rfl, h4⟩ := h
  have key : ∀ g o, (0 < l.length → A = some ⟨g, o, none⟩ ∧ g < w.heap.size ∧ ∀ i k, i < l.length → k < 4 → w.cell? ⟨g, o + i * 4 + k, none⟩ = some (u ((l.getD i D.zero).1.getD k 0))) → Rep (allOf w) (.sl .any (dsP l)) (.slice A l.length c) := fun g o h4 => by
    have := Rep.sl (E := allOf w) .any (dsP l) A c g o 4 (fun i j => u ((l.getD i D.zero).1.getD j 0)) (by rw [dsP_len]; exact h1) h2 (fun h => by cases h) (fun t h => by cases h)
      (fun i hi => dsP_wide l i hi) (fun hne => (h4 (by cases l with | nil => exact absurd rfl hne | cons a l => simp)).1)
      (fun i j hi hj => by
        rw [dsP_len] at hi
        obtain ⟨_, hg, hc⟩ := h4 (by omega)
        exact ⟨hc i j hi hj, hg, rfl⟩)
      (fun i j hi hj => by
        rw [dsP_len] at hi
        rw [dsP_getD hi]
        match j, hj with
        | 0, _ => exact .v _
        | 1, _ => exact .v _
        | 2, _ => exact .v _
        | 3, _ => exact .v _)
    rw [dsP_len] at this
    exact this
  by_cases hn : 0 < l.length
  · obtain ⟨g, o, h⟩ := h4 hn
    exact key g o fun _ => h
  · exact key 0 0 fun h => absurd h hn
theorem walk_of {f : FuncId} {ars : List PV} {vs : Array Value} {w : World} {b : Bool} (h : Spec (Ctx.mk Tryd.prog globX (0 + 1) Places) f ars [] (.v (.bool b)) []) (hP : Places w) (ha : RepC (allOf w) ars vs) : Calls Tryd.prog f vs w fun e w' => e = .returned (.bool b) ∧ Grow w w' := by
  refine (h w (fun g _ => g < w.heap.size) (fun _ => none) vs hP hP.1 (fun g => rep_glob w hP g) ha (fun j hj => by simp at hj) (fun _ _ h => h) (fun _ _ _ h => (by cases h)) (fun _ _ h => (by cases h)) (fun _ _ _ h => (by cases h))).mono ?_
  rintro e w' ⟨x, F', rfl, h1, h2, h3, h4, h5, -, -, -, hr, -⟩
  exact ⟨by rw [hr.v_eq], h1, h2, h3, h4, fun k hk => h5 k hk fun b hb => (by cases hb)⟩
theorem args1 {E : Env} {p : PV} {x : Value} (h : Rep E p x) : RepC E [p] #[x] := ⟨rfl, fun i hi => by
  have hi : i < 1 := hi
  match i, hi with
  | 0, _ => exact h⟩
theorem args2 {E : Env} {p q : PV} {x y : Value} (h : Rep E p x) (h' : Rep E q y) : RepC E [p, q] #[x, y] := ⟨rfl, fun i hi => by
  have hi : i < 2 := hi
  match i, hi with
  | 0, _ => exact h
  | 1, _ => exact h'⟩
theorem args3 {E : Env} {p q r : PV} {x y z : Value} (h : Rep E p x) (h' : Rep E q y) (h'' : Rep E r z) : RepC E [p, q, r] #[x, y, z] := ⟨rfl, fun i hi => by
  have hi : i < 3 := hi
  match i, hi with
  | 0, _ => exact h
  | 1, _ => exact h'
  | 2, _ => exact h''⟩
theorem args4 {E : Env} {p q r s : PV} {x y z t : Value} (h : Rep E p x) (h' : Rep E q y) (h'' : Rep E r z) (h3 : Rep E s t) : RepC E [p, q, r, s] #[x, y, z, t] := ⟨rfl, fun i hi => by
  have hi : i < 4 := hi
  match i, hi with
  | 0, _ => exact h
  | 1, _ => exact h'
  | 2, _ => exact h''
  | 3, _ => exact h3⟩
/- The steps of a walk as lemmas: what each asks is closed by the tactics that it bears; what is left is the next state. -/
theorem clo_ {p : Prop} (h : p := by first | with_reducible rfl | assumption | decide | simpa | fail) : p := h
theorem want_ {p : Prop} (h : p := by first | exact wanted_none rfl | exact wanted_t rfl rfl rfl clo_ | fail) : p := h
theorem skip_ {p : Prop} (h : p := by first | exact wanted_f rfl rfl rfl clo_ | exact wanted_u rfl rfl rfl | fail) : p := h
theorem step_ {p : Prop} (h : p := by first | (intro K hK; (conv => whnf); (repeat ((first | refine And.intro (by first | with_reducible rfl | (refine (?_ : _ = true); kernel_rfl) | (refine (?_ : _ = HC.row _ _); kernel_rfl) | exact Nat.le_of_ble_eq_true rfl | assumption | decide | exact True.intro | exact Tryd.underlying4) ?_ | refine ⟨_, _, rfl, ssP_at (by first | assumption | omega), rfl, ?_⟩ | refine ⟨_, _, rfl, dsP_at (by first | assumption | omega), rfl, ?_⟩ | refine ⟨_, _, _, dP_flat _, dP_flat _, eq_D _ _, ?_⟩ | refine Or.inl ?_ | refine ⟨_, rfl, by decide, ?_⟩ | refine bsplit_t (by first | with_reducible rfl | assumption | decide | simpa) ?_ | refine bsplit_f (by first | with_reducible rfl | assumption | decide | simpa) ?_); conv => whnf)); exact hK) | fail) : p := h
theorem put_ {p : Prop} (h : p := by first | (intro K hK; (conv => whnf); exact hK) | fail) : p := h
/-- The state that is left; so that it isn't taken for a fact. -/
inductive Left (q : Prop) : Prop
  | mk (h : q)
theorem Left.get {q : Prop} (h : Left q) : q := by cases h; assumption
theorem ev_ {p q : Prop} (hq : q) (k : Left q → p := by first | (intro hq; (conv => whnf); (repeat ((first | refine And.intro (by first | with_reducible rfl | (refine (?_ : _ = true); kernel_rfl) | (refine (?_ : _ = HC.row _ _); kernel_rfl) | exact Nat.le_of_ble_eq_true rfl | assumption | decide | exact True.intro | exact Tryd.underlying4) ?_ | refine ⟨_, _, rfl, ssP_at (by first | assumption | omega), rfl, ?_⟩ | refine ⟨_, _, rfl, dsP_at (by first | assumption | omega), rfl, ?_⟩ | refine ⟨_, _, _, dP_flat _, dP_flat _, eq_D _ _, ?_⟩ | refine Or.inl ?_ | refine ⟨_, rfl, by decide, ?_⟩ | refine bsplit_t (by first | with_reducible rfl | assumption | decide | simpa) ?_ | refine bsplit_f (by first | with_reducible rfl | assumption | decide | simpa) ?_); conv => whnf)); exact hq.get) | fail) : p := k ⟨hq⟩
theorem go_ {p q : Prop} (hq : q) (k : Left q → p := by first | (intro hq; (repeat (first | ((with_reducible apply run_y); (exact want_); (exact step_)) | ((with_reducible apply run_skip); (exact skip_); (exact put_)) | ((with_reducible apply run_drawK); (refine (?_ : _ = true); kernel_rfl)) | with_reducible (first | apply c_seq | apply c_then | apply c_then_exit | apply c_then_ret | apply c_skip | apply c_exit | apply c_ret | apply c_reg | apply c_block | apply c_block_n | apply c_block_ret | apply c_round_exit | apply c_round_ret | apply c_cut_exit | apply c_cut_ret | apply run_seqK) | ((with_reducible apply c_draw); (refine (?_ : _ = true); kernel_rfl)) | ((with_reducible apply c_block_exit); (exact rfl)) | ((with_reducible apply c_block_out); (refine (?_ : _ = false); exact rfl)) | ((with_reducible apply c_cond_t); (exact rfl); (exact clo_)) | ((with_reducible apply c_cond_f); (exact rfl); (exact clo_)) | fail)); exact hq.get) | fail) : p := k ⟨hq⟩
theorem goto_ (r : Nat) {p q : Prop} (hq : q) (k : Left q → At r → p := by first | (intro hq hr; (repeat (first | ((fail_if_success (with_reducible first | apply c_stop hr | apply c_stop2 hr)); (first | ((with_reducible apply run_y); (exact want_); (exact step_)) | ((with_reducible apply run_skip); (exact skip_); (exact put_)) | ((with_reducible apply run_drawK); (refine (?_ : _ = true); kernel_rfl)) | with_reducible (first | apply c_seq | apply c_then | apply c_then_exit | apply c_then_ret | apply c_skip | apply c_exit | apply c_ret | apply c_reg | apply c_block | apply c_block_n | apply c_block_ret | apply c_round_exit | apply c_round_ret | apply c_cut_exit | apply c_cut_ret | apply run_seqK) | ((with_reducible apply c_draw); (refine (?_ : _ = true); kernel_rfl)) | ((with_reducible apply c_block_exit); (exact rfl)) | ((with_reducible apply c_block_out); (refine (?_ : _ = false); exact rfl)) | ((with_reducible apply c_cond_t); (exact rfl); (exact clo_)) | ((with_reducible apply c_cond_f); (exact rfl); (exact clo_)) | fail)) | fail)); exact hq.get) | fail) : p := k ⟨hq⟩ .mk
theorem sub_ {s : St} {l : List PV} {m : Nat} {h : List (Nat × HC)} (k : Sub s l m h := by (refine ⟨?_, ?_, rfl⟩ <;> conv => whnf); (all_goals (repeat (first | exact trivial | (refine And.intro (by ((conv => lhs; whnf) <;> first | with_reducible rfl | assumption | (refine val64 ?_ ?_ <;> omega) | rfl)) ?_; conv => whnf))))) : Sub s l m h := k
end Go.Proofs.YtjokaennipmmaaaDoor
