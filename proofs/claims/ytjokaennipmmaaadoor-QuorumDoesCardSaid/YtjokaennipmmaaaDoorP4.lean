import Derived.Test.YtjokaennipmmaaaDoorPx
import Derived.Test.YtjokaennipmmaaaDoorB3
import Derived.Test.YtjokaennipmmaaaDoorMk
import Derived.Test.YtjokaennipmmaaaDoorAlive04
/- Proofs and their checks, of the document, as sayings of the machine of plain values. -/
namespace Go.Proofs.YtjokaennipmmaaaDoor
open Go.RowKit
set_option linter.unnecessarySimpa false
theorem isEmpty_dsP (p : List D) : p.isEmpty = (((dsP p).length : Int) == 0) := by cases p <;> simp [dsP]; omega
theorem last_at (p : List D) : p.getLastD D.zero = p.getD (p.length - 1) D.zero := by
  rw [List.getLastD_eq_getLast?, List.getLast?_eq_getElem?]; simp [List.getD]
theorem dsP_init (p : List D) : ((dsP p).drop 0).take (p.length - 1 - 0) = dsP p.dropLast := by
  rw [dsP_take, List.dropLast_eq_take]
theorem wrap_sub {a b : Nat} (h : b ≤ a) (ha : a ≤ 1000000000) : IntKind.i64.wrap ((a : Int) - (b : Int)) = ((a - b : Nat) : Int) := by
  rw [wrap64 (by omega) (by omega)]; omega
theorem wrap_len {p : List D} (h : p ≠ []) (ha : p.length ≤ 1000000000) : IntKind.i64.wrap (((dsP p).length : Int) - 1) = ((p.length - 1 : Nat) : Int) := by
  have : 0 < p.length := List.length_pos_iff.2 h
  rw [dsP_len, wrap64 (by omega) (by omega)]; omega
set_option maxRecDepth 100000 in
theorem s_up (n : Nat) : ∀ (i : Nat) (leaf : D) (p : List D), 1 ≤ n → n ≤ 1000000 → i < n → p.length ≤ 1000000 → Spec (Ctx.mk Tryd.prog globX (0 + 1) Places) 57 [.v (.int .i64 (n : Int)), .v (.int .i64 (i : Int)), .agg (dP leaf), .sl .any (dsP p)] [] (.tup [.agg (dP (upE n i leaf p).1), .v (.bool (upE n i leaf p).2)]) [] := by
  induction n using Nat.strongRecOn with
  | ind n ih =>
    intro i leaf p h1 hn hi hp
    refine spec_of_bodyL CX_mixed CX_gpk Tryd.func57 rfl 71 0 rfl rfl rfl rfl ?_
    refine go_ ?_
    first | refine run_b rfl rfl rfl (fun h => ?_) (fun h => ?_) | refine c_cond rfl (fun h => ?_) (fun h => ?_)
    · skip
      refine go_ ?_
      have hn1 : n = 1 := by simp at h; omega
      subst hn1
      refine ev_ ?_
      exact .mk (by rw [upE_one i leaf p (by omega), isEmpty_dsP]; rfl) trivial
    · have h2 : 2 ≤ n := by simp at h; omega
      have hk := halfE_lt h2
      have hk' := halfE_pos n
      refine go_ ?_
      first | refine run_b rfl rfl rfl (fun h3 => ?_) (fun h3 => ?_) | refine c_cond rfl (fun h3 => ?_) (fun h3 => ?_)
      · have he : p = [] := by simpa [dsP] using h3
        subst he
        refine go_ ?_
        refine ev_ ?_
        exact .mk (by rw [upE_nil i leaf h2]; rfl) trivial
      · have he : p ≠ [] := by rintro rfl; simp [dsP] at h3
        have hl : 0 < p.length := List.length_pos_iff.2 he
        have hdl : p.dropLast.length ≤ 1000000 := by simp; omega
        refine go_ ?_
        rw [wrap_len he (by omega)]
        refine go_ ?_
        rw [wrap_len he (by omega)]
        with_reducible apply run_y
        exact want_
        · intro K hK
          refine ev_ ?_
          refine ⟨0, p.length - 1, dsP p.dropLast, rfl, rfl, Nat.zero_le _, by rw [dsP_len]; omega, ⟨_, _, rfl, rfl, .inl rfl⟩, dsP_init p, ?_⟩
          refine ev_ ?_
          exact hK
        refine go_ ?_
        with_reducible apply run_y
        exact want_
        · intro K hK
          refine ev_ ?_
          refine vcCall_plain (s_rhalf n h2 hn) (by kernel_rfl) ?_
          refine ev_ ?_
          exact hK
        refine go_ ?_
        first | refine run_b rfl rfl rfl (fun h5 => ?_) (fun h5 => ?_) | refine c_cond rfl (fun h5 => ?_) (fun h5 => ?_)
        · have hi' : i < halfE n := by simpa using h5
          refine go_ ?_
          with_reducible apply run_y
          exact want_
          · intro K hK
            refine ev_ ?_
            refine vcCall_plain (ih (halfE n) hk i leaf p.dropLast (by omega) (by omega) hi' hdl) (by kernel_rfl) ?_
            refine ev_ ?_
            exact hK
          refine go_ ?_
          with_reducible apply run_y
          exact want_
          · intro K hK
            refine ev_ ?_
            refine vcCall_plain (s_rpair (upE (halfE n) i leaf p.dropLast).1 (p.getD (p.length - 1) D.zero)) (by kernel_rfl) ?_
            refine ev_ ?_
            exact hK
          refine go_ ?_
          refine ev_ ?_
          exact .mk (by rw [upE_left leaf h2 he hi', last_at]; rfl) trivial
        · have hi' : ¬ i < halfE n := by simpa using h5
          refine go_ ?_
          rw [wrap_sub (a := n) (b := halfE n) (by omega) (by omega), wrap_sub (a := i) (b := halfE n) (by omega) (by omega)]
          with_reducible apply run_y
          exact want_
          · intro K hK
            refine ev_ ?_
            refine vcCall_plain (ih (n - halfE n) (by omega) (i - halfE n) leaf p.dropLast (by omega) (by omega) (by omega) hdl) (by kernel_rfl) ?_
            refine ev_ ?_
            exact hK
          refine go_ ?_
          with_reducible apply run_y
          exact want_
          · intro K hK
            refine ev_ ?_
            refine vcCall_plain (s_rpair (p.getD (p.length - 1) D.zero) (upE (n - halfE n) (i - halfE n) leaf p.dropLast).1) (by kernel_rfl) ?_
            refine ev_ ?_
            exact hK
          refine go_ ?_
          refine ev_ ?_
          exact .mk (by rw [upE_right leaf h2 he hi', last_at]; rfl) trivial
/-- Whether a proof shows it, whatever the numbers. -/
def checkE (root : D) (n i : Int) (leaf : D) (p : List D) : Bool := if n > 1000 ∨ i < 0 ∨ i ≥ n then false else rcheckE root n.toNat i.toNat leaf p
theorem checkE_no {root : D} {n i : Int} {leaf : D} {p : List D} (h : n > 1000 ∨ i < 0 ∨ i ≥ n) : checkE root n i leaf p = false := if_pos h
theorem checkE_in {root : D} {n i : Nat} {leaf : D} {p : List D} (h : n ≤ 1000) (hi : i < n) : checkE root n i leaf p = rcheckE root n i leaf p := by
  unfold checkE; rw [if_neg (by omega)]; rfl
theorem checkE_long {root : D} {n i : Int} {leaf : D} {p : List D} (h : 20 < p.length) : checkE root n i leaf p = false := by
  unfold checkE
  split
  · rfl
  · exact rcheck_long root _ _ leaf p (by omega) h
set_option maxRecDepth 100000 in
theorem s_rcheck (root : D) (n i : Int) (leaf : D) (p : List D) : Spec (Ctx.mk Tryd.prog globX (0 + 1) Places) 42 [.agg (dP root), .v (.int .i64 n), .v (.int .i64 i), .agg (dP leaf), .sl .any (dsP p)] [] (.v (.bool (checkE root n i leaf p))) [] := by
  refine spec_of_bodyL CX_mixed CX_gpk Tryd.func42 rfl 43 0 rfl rfl rfl rfl ?_
  refine go_ ?_
  cases h1 : decide (n > 1000)
  · skip
    refine go_ ?_
    cases h2 : decide (i < 0)
    · skip
      refine go_ ?_
      cases h3 : decide (i ≥ n)
      · skip
        refine go_ ?_
        cases h4 : decide (((dsP p).length : Int) > 20)
        · simp [dsP_len] at h1 h2 h3 h4
          obtain ⟨i, rfl⟩ := Int.eq_ofNat_of_zero_le h2
          obtain ⟨n, rfl⟩ := Int.eq_ofNat_of_zero_le (show 0 ≤ n by omega)
          refine go_ ?_
          with_reducible apply run_y
          exact want_
          · intro K hK
            refine ev_ ?_
            refine vcCall_plain (s_up n i leaf p (by omega) (by omega) (by omega) (by omega)) (by kernel_rfl) ?_
            refine ev_ ?_
            exact hK
          refine go_ ?_
          rw [checkE_in (by omega) (by omega)]
          unfold rcheckE
          cases h5 : (upE n i leaf p).2
          · skip
            refine go_ ?_
            refine ev_ ?_
            exact .mk (vb_eq (by simp)) trivial
          · skip
            refine go_ ?_
            refine ev_ ?_
            exact .mk (vb_eq (by simp)) trivial
        · simp [dsP_len] at h4
          refine go_ ?_
          refine ev_ ?_
          exact .mk (by rw [checkE_long (by omega)]; rfl) trivial
      · simp at h3
        refine go_ ?_
        refine ev_ ?_
        exact .mk (by rw [checkE_no (.inr (.inr h3))]; rfl) trivial
    · simp at h2
      refine go_ ?_
      refine ev_ ?_
      exact .mk (by rw [checkE_no (.inr (.inl h2))]; rfl) trivial
  · simp at h1
    refine go_ ?_
    refine ev_ ?_
    exact .mk (by rw [checkE_no (.inl h1)]; rfl) trivial
/-- Whether a proof shows that a list goes on, whatever the numbers. -/
def checkOnE (old : D) (m : Int) (root : D) (n : Int) (p : List D) : Bool := if n > 1000 ∨ m < 1 ∨ m > n then false else rcheckOnE old m.toNat root n.toNat p
theorem checkOnE_no {old root : D} {m n : Int} {p : List D} (h : n > 1000 ∨ m < 1 ∨ m > n) : checkOnE old m root n p = false := if_pos h
theorem checkOnE_in {old root : D} {m n : Nat} {p : List D} (h : n ≤ 1000) (h1 : 1 ≤ m) (h2 : m ≤ n) : checkOnE old m root n p = rcheckOnE old m root n p := by
  unfold checkOnE; rw [if_neg (by omega)]; rfl
theorem checkOnE_long {old root : D} {m n : Int} {p : List D} (h : 20 < p.length) : checkOnE old m root n p = false := by
  unfold checkOnE
  split
  · rfl
  · exact rcheckOn_long old _ root _ p (by omega) (by omega) (by omega) h
theorem rep_tup_sl {E : Env} {l : List D} {x : Value} {z : Int} (h : Rep E (.sl .any (dsP l)) x) : Rep E (.tup [.sl .any (dsP l), .v (.int .i64 z)]) (.tuple #[x, .int .i64 z]) := .tup _ _ rfl fun i hi => by
  have hi : i < 2 := hi
  match i, hi with
  | 0, _ => exact h
  | 1, _ => exact .v _
theorem s_rprove (l : List D) (i : Nat) (hi : i < l.length) (hl : l.length ≤ 1000000) : Spec (Ctx.mk Tryd.prog globX (0 + 1) Places) 32 [.sl .any (dsP l), .v (.int .i64 (i : Int))] [] (.tup [.sl .any (dsP (wayE noneE l i)), .v (.int .i64 0)]) [] :=
  spec_row2 fun E vs hp hF ha => by
    obtain ⟨x, y, rfl, r, r'⟩ := repC2 ha
    obtain ⟨A, c, rfl, h⟩ := rep_ds hF r
    rw [rep_v r']
    refine (rprove_c _ hl i A c l E.w hi hp h).mono ?_
    rintro e w ⟨v, h1, h2, h3⟩
    exact ⟨v, _, h1, h2, h3⟩
end Go.Proofs.YtjokaennipmmaaaDoor
/- merkle.Check and merkle.CheckOn, with what is left of a proof in a box. -/
namespace Go.Proofs.YtjokaennipmmaaaDoor
open Go.RowKit
set_option linter.unnecessarySimpa false
/-- A call that is handed one box, ahead of plain values. -/
theorem vcCall_box {C : Ctx} {np : Nat} {f : FuncId} {k : Nat} {az : List PV} {cs cs' out : List PV} {hp : Nat → HC} {K : Eff → Prop} {r : PV} (h : Spec C f (.ptr 1 0 :: az) [cs'] r [out]) (ha : az.all PV.plain = true) (hk : k ≠ 0) (hc : hp k = .cells cs)
    (hl : cs.all PV.leaf = true) (hd : cs.map PV.dem1 = cs') (ho : out.all PV.plain1 = true) (hK : K ⟨r, [(k, .cells out)], [k]⟩) : vcCall C np f (.ptr k 0 :: az) hp K := by
  have hpl := List.all_eq_true.1 ha
  subst hd
  refine ⟨[], [k], .ptr 1 0 :: az, [.cells cs], r, [.cells out], ?_, by simp, rfl, fun j hj => ?_, ?_, ?_, ?_, h, hK⟩
  · rw [List.map_cons]
    congr 1
    rw [show az.map (ren [k]) = az.map id from List.map_congr_left fun a h => by
      have := hpl a h
      cases a <;> first | rfl | simp [PV.plain] at this]
    exact List.map_id az
  · have : j = 0 := by simpa using hj
    subst this
    exact ⟨hk, hc⟩
  · intro c hc'
    obtain rfl : c = .cells cs := by simpa using hc'
    exact hl
  · intro c hc'
    obtain rfl : c = .cells out := by simpa using hc'
    exact ho
  · intro a ha'
    rcases List.mem_cons.1 ha' with rfl | ha'
    · exact .inr (.inl ⟨1, 0, rfl, Nat.le_refl 1, Nat.le_refl 1⟩)
    · exact .inl (hpl a ha')
def restP (p : List D) (b : Bool) : List PV := [.sl .any (dsP p), .v (.bool b)]
set_option maxRecDepth 100000 in
theorem s_last (p : List D) (b : Bool) (hp : p.length ≤ 1000000) : Spec (Ctx.mk Tryd.prog globX (0 + 1) Places) 55 [.ptr 1 0] [restP p b] (.agg (dP (lastE (p, b)).1)) [restP (lastE (p, b)).2.1 (lastE (p, b)).2.2] := by
  refine spec_of_bodyL CX_mixed CX_gpk Tryd.func55 rfl 41 1 rfl rfl rfl rfl ?_
  refine go_ ?_
  first | refine run_b rfl rfl rfl (fun h => ?_) (fun h => ?_) | refine c_cond rfl (fun h => ?_) (fun h => ?_)
  · have he : p = [] := by simpa [dsP] using h
    subst he
    refine go_ ?_
    refine ev_ ?_
    exact .mk (by rfl) (And.intro (And.intro rfl rfl) trivial)
  · have he : p ≠ [] := by rintro rfl; simp [dsP] at h
    have hl : 0 < p.length := List.length_pos_iff.2 he
    refine go_ ?_
    rw [wrap_len he (by omega)]
    refine go_ ?_
    rw [wrap_len he (by omega)]
    with_reducible apply run_y
    exact want_
    · intro K hK
      refine ev_ ?_
      refine ⟨0, p.length - 1, dsP p.dropLast, rfl, rfl, Nat.zero_le _, by rw [dsP_len]; omega, ⟨_, _, rfl, rfl, .inl rfl⟩, dsP_init p, ?_⟩
      refine ev_ ?_
      exact hK
    refine go_ ?_
    rw [lastE_cons he, last_at]
    refine ev_ ?_
    exact .mk (by rfl) (And.intro (And.intro rfl rfl) trivial)
set_option maxRecDepth 100000 in
theorem s_spent (p : List D) (b : Bool) : Spec (Ctx.mk Tryd.prog globX (0 + 1) Places) 40 [.ptr 1 0] [restP p b] (.v (.bool (spentE (p, b)))) [restP p b] := by
  refine spec_of_bodyL CX_mixed CX_gpk Tryd.func40 rfl 16 1 rfl rfl rfl rfl ?_
  refine go_ ?_
  cases b
  · skip
    refine go_ ?_
    refine ev_ ?_
    exact .mk (by unfold spentE; rw [isEmpty_dsP]; rfl) (And.intro (And.intro rfl rfl) trivial)
  · skip
    refine go_ ?_
    refine ev_ ?_
    exact .mk (by rfl) (And.intro (And.intro rfl rfl) trivial)
theorem lastE_len (p : List D) (b : Bool) : (lastE (p, b)).2.1.length ≤ p.length := by
  unfold lastE
  split <;> simp
set_option maxRecDepth 100000 in
theorem s_climb (n : Nat) : ∀ (i : Nat) (leaf : D) (p : List D) (b : Bool), 1 ≤ n → n ≤ 1000000 → i < n → p.length ≤ 1000000 → Spec (Ctx.mk Tryd.prog globX (0 + 1) Places) 39 [.ptr 1 0, .v (.int .i64 (n : Int)), .v (.int .i64 (i : Int)), .agg (dP leaf)] [restP p b] (.agg (dP (climbE n i leaf (p, b)).1)) [restP (climbE n i leaf (p, b)).2.1 (climbE n i leaf (p, b)).2.2] := by
  induction n using Nat.strongRecOn with
  | ind n ih =>
    intro i leaf p b h1 hn hi hp
    refine spec_of_bodyL CX_mixed CX_gpk Tryd.func39 rfl 39 1 rfl rfl rfl rfl ?_
    refine go_ ?_
    first | refine run_b rfl rfl rfl (fun h => ?_) (fun h => ?_) | refine c_cond rfl (fun h => ?_) (fun h => ?_)
    · have hn1 : n = 1 := by simp at h; omega
      subst hn1
      rw [climbE_one i leaf (p, b) (by omega)]
      refine go_ ?_
      refine ev_ ?_
      exact .mk (by rfl) (And.intro (And.intro rfl rfl) trivial)
    · have h2 : 2 ≤ n := by simp at h; omega
      have hk := halfE_lt h2
      have hk' := halfE_pos n
      refine go_ ?_
      with_reducible apply run_y
      exact want_
      · intro K hK
        refine ev_ ?_
        refine vcCall_plain (s_half n h2 hn) (by kernel_rfl) ?_
        refine ev_ ?_
        exact hK
      refine go_ ?_
      with_reducible apply run_y
      exact want_
      · intro K hK
        refine ev_ ?_
        refine vcCall_box (s_last p b hp) (by kernel_rfl) (by decide) rfl (by kernel_rfl) rfl (by kernel_rfl) ?_
        refine ev_ ?_
        exact hK
      refine go_ ?_
      have hll := lastE_len p b
      first | refine run_b rfl rfl rfl (fun h5 => ?_) (fun h5 => ?_) | refine c_cond rfl (fun h5 => ?_) (fun h5 => ?_)
      · have hi' : i < halfE n := by simpa using h5
        refine go_ ?_
        with_reducible apply run_y
        exact want_
        · intro K hK
          refine ev_ ?_
          refine vcCall_box (ih (halfE n) hk i leaf (lastE (p, b)).2.1 (lastE (p, b)).2.2 (by omega) (by omega) hi' (by omega)) (by kernel_rfl) (by decide) rfl (by kernel_rfl) rfl (by kernel_rfl) ?_
          refine ev_ ?_
          exact hK
        refine go_ ?_
        with_reducible apply run_y
        exact want_
        · intro K hK
          refine ev_ ?_
          refine vcCall_plain (s_pair (climbE (halfE n) i leaf (lastE (p, b)).2).1 (lastE (p, b)).1) (by kernel_rfl) ?_
          refine ev_ ?_
          exact hK
        refine go_ ?_
        rw [climbE_left leaf (p, b) h2 hi']
        refine ev_ ?_
        exact .mk (by rfl) (And.intro (And.intro rfl rfl) trivial)
      · have hi' : ¬ i < halfE n := by simpa using h5
        refine go_ ?_
        rw [wrap_sub (a := n) (b := halfE n) (by omega) (by omega), wrap_sub (a := i) (b := halfE n) (by omega) (by omega)]
        with_reducible apply run_y
        exact want_
        · intro K hK
          refine ev_ ?_
          refine vcCall_box (ih (n - halfE n) (by omega) (i - halfE n) leaf (lastE (p, b)).2.1 (lastE (p, b)).2.2 (by omega) (by omega) (by omega) (by omega)) (by kernel_rfl) (by decide) rfl (by kernel_rfl) rfl (by kernel_rfl) ?_
          refine ev_ ?_
          exact hK
        refine go_ ?_
        with_reducible apply run_y
        exact want_
        · intro K hK
          refine ev_ ?_
          refine vcCall_plain (s_pair (lastE (p, b)).1 (climbE (n - halfE n) (i - halfE n) leaf (lastE (p, b)).2).1) (by kernel_rfl) ?_
          refine ev_ ?_
          exact hK
        refine go_ ?_
        rw [climbE_right leaf (p, b) h2 hi']
        refine ev_ ?_
        exact .mk (by rfl) (And.intro (And.intro rfl rfl) trivial)
theorem climbE_len (n : Nat) : ∀ (i : Nat) (leaf : D) (p : List D) (b : Bool), (climbE n i leaf (p, b)).2.1.length ≤ p.length := by
  induction n using Nat.strongRecOn with
  | ind n ih =>
    intro i leaf p b
    have hl := lastE_len p b
    by_cases h : 2 ≤ n
    · have h1 := halfE_lt h
      have h2 := halfE_pos n
      by_cases hi : i < halfE n
      · rw [climbE_left leaf _ h hi]; exact Nat.le_trans (ih _ h1 _ _ _ _) hl
      · rw [climbE_right leaf _ h hi]; exact Nat.le_trans (ih _ (by omega) _ _ _ _) hl
    · rw [climbE_one i leaf _ (by omega)]; exact Nat.le_refl _
set_option maxRecDepth 100000 in
theorem s_check (root : D) (n i : Int) (leaf : D) (p : List D) (hp : p.length ≤ 1000000) : Spec (Ctx.mk Tryd.prog globX (0 + 1) Places) 28 [.agg (dP root), .v (.int .i64 n), .v (.int .i64 i), .agg (dP leaf), .sl .any (dsP p)] [] (.v (.bool (checkE root n i leaf p))) [] := by
  refine spec_of_bodyL CX_mixed CX_gpk Tryd.func28 rfl 36 0 rfl rfl rfl rfl ?_
  refine go_ ?_
  cases h1 : decide (n > 1000)
  · skip
    refine go_ ?_
    cases h2 : decide (i < 0)
    · skip
      refine go_ ?_
      cases h3 : decide (i ≥ n)
      · simp at h1 h2 h3
        obtain ⟨i, rfl⟩ := Int.eq_ofNat_of_zero_le h2
        obtain ⟨n, rfl⟩ := Int.eq_ofNat_of_zero_le (show 0 ≤ n by omega)
        refine go_ ?_
        with_reducible apply run_y
        exact want_
        · intro K hK
          refine ev_ ?_
          refine vcCall_box (s_climb n i leaf p false (by omega) (by omega) (by omega) hp) (by kernel_rfl) (by decide) rfl (by kernel_rfl) rfl (by kernel_rfl) ?_
          refine ev_ ?_
          exact hK
        refine go_ ?_
        with_reducible apply run_y
        exact want_
        · intro K hK
          refine ev_ ?_
          refine vcCall_box (s_spent (climbE n i leaf (p, false)).2.1 (climbE n i leaf (p, false)).2.2) (by kernel_rfl) (by decide) rfl (by kernel_rfl) rfl (by kernel_rfl) ?_
          refine ev_ ?_
          exact hK
        refine go_ ?_
        rw [checkE_in (by omega) (by omega), ← mcheck_rcheck]
        unfold mcheckE
        cases h5 : spentE (climbE n i leaf (p, false)).2
        · skip
          refine go_ ?_
          refine ev_ ?_
          exact .mk (vb_eq (by simp)) trivial
        · skip
          refine go_ ?_
          refine ev_ ?_
          exact .mk (vb_eq (by simp)) trivial
      · simp at h3
        refine go_ ?_
        refine ev_ ?_
        exact .mk (by rw [checkE_no (.inr (.inr h3))]; rfl) trivial
    · simp at h2
      refine go_ ?_
      refine ev_ ?_
      exact .mk (by rw [checkE_no (.inr (.inl h2))]; rfl) trivial
  · simp at h1
    refine go_ ?_
    refine ev_ ?_
    exact .mk (by rw [checkE_no (.inl h1)]; rfl) trivial
end Go.Proofs.YtjokaennipmmaaaDoor
/- merkle.CheckOn, with what is left of a proof in a box; the program's own sign of life. -/
namespace Go.Proofs.YtjokaennipmmaaaDoor
open Go.RowKit
set_option linter.unnecessarySimpa false
end Go.Proofs.YtjokaennipmmaaaDoor
/- Laws of chapter 04: proofs are given and shown. -/
namespace Go.Proofs.YtjokaennipmmaaaDoor
open Go.RowKit
set_option linter.unnecessarySimpa false
theorem rep_nil (E : Env) : Rep E (.sl .any (dsP [])) (.slice none 0 0) :=
  .sl .any [] none 0 0 0 0 (fun _ _ => undef) (Nat.le_refl _) (Nat.zero_le _) (fun h => by cases h) (fun _ h => by cases h) (fun _ h => absurd h (Nat.not_lt_zero _)) (fun h => absurd rfl h) (fun _ _ h => absurd h (Nat.not_lt_zero _)) (fun _ _ h => absurd h (Nat.not_lt_zero _))
theorem s_no {f : FuncId} {l : List D} {x : Int} (h : ∀ A c w, Calls Tryd.prog f #[.slice A l.length c, .int .i64 x] w fun e w' => e = .returned (.tuple #[.slice none 0 0, .int .i64 1]) ∧ Grow w w') : Spec (Ctx.mk Tryd.prog globX (0 + 1) Places) f [.sl .any (dsP l), .v (.int .i64 x)] [] (.tup [.sl .any (dsP []), .v (.int .i64 1)]) [] :=
  spec_val rfl (fun E => rep_tup_sl (rep_nil E)) fun E vs hp hF ha => by
    obtain ⟨a, y, rfl, r, r'⟩ := repC2 ha
    obtain ⟨A, c, rfl, _⟩ := rep_ds hF r
    rw [rep_v r']
    exact h A c E.w
def proveE (l : List D) (x : Int) : List D × Int := if 0 ≤ x ∧ x < l.length then (wayE noneE l x.toNat, 0) else ([], 1)
def proveOnE (l : List D) (x : Int) : List D × Int := if 1 ≤ x ∧ x ≤ l.length then (goesE noneE l x.toNat true, 0) else ([], 1)
theorem s_rproveI (l : List D) (x : Int) (hl : l.length ≤ 1000000) : Spec (Ctx.mk Tryd.prog globX (0 + 1) Places) 32 [.sl .any (dsP l), .v (.int .i64 x)] [] (.tup [.sl .any (dsP (proveE l x).1), .v (.int .i64 (proveE l x).2)]) [] := by
  unfold proveE
  split
  · rename_i h
    obtain ⟨i, rfl⟩ := Int.eq_ofNat_of_zero_le h.1
    exact s_rprove l i (by omega) hl
  · exact s_no fun A c w => rprove_no _ x A c w (by omega)
theorem getD_of {cs : Array Value} {i : Nat} {v : Value} (h : cs[i]? = some v) : cs.getD i undef = v := by
  rw [Array.getD_eq_getD_getElem?, h]; rfl
theorem rep_ask {w : World} {cs : Array Value} {a b : D} {x y : Int} {A : Option Addr} {m c : Nat} {p : List D} (hz : cs.size = 11) (k0 : ∀ k, k < 4 → cs[0 + k]? = some (u (a.1.getD k 0))) (k1 : ∀ k, k < 4 → cs[4 + k]? = some (u (b.1.getD k 0)))
    (k2 : cs[8]? = some (.int .i64 x)) (k3 : cs[9]? = some (.int .i64 y)) (k4 : cs[10]? = some (.slice A m c)) (hs : SlD w A m c p) : Rep (allOf w) (.agg (dP a ++ dP b ++ [.v (.int .i64 x), .v (.int .i64 y), .sl .any (dsP p)])) (.agg cs) := by
  refine .agg _ _ (by rw [hz]; rfl) fun i hi => ?_
  have hi : i < 11 := hi
  match i, hi with
  | 0, _ => rw [getD_of (k0 0 (by omega))]; exact .v _
  | 1, _ => rw [getD_of (k0 1 (by omega))]; exact .v _
  | 2, _ => rw [getD_of (k0 2 (by omega))]; exact .v _
  | 3, _ => rw [getD_of (k0 3 (by omega))]; exact .v _
  | 4, _ => rw [getD_of (k1 0 (by omega))]; exact .v _
  | 5, _ => rw [getD_of (k1 1 (by omega))]; exact .v _
  | 6, _ => rw [getD_of (k1 2 (by omega))]; exact .v _
  | 7, _ => rw [getD_of (k1 3 (by omega))]; exact .v _
  | 8, _ => rw [getD_of k2]; exact .v _
  | 9, _ => rw [getD_of k3]; exact .v _
  | 10, _ => rw [getD_of k4]; exact sl_ds hs
end Go.Proofs.YtjokaennipmmaaaDoor
