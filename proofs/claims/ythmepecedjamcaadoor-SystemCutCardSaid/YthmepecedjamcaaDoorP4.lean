import Derived.Test.YthmepecedjamcaaDoorPx
import Derived.Test.YthmepecedjamcaaDoorB3
import Derived.Test.YthmepecedjamcaaDoorMk
import Derived.Test.YthmepecedjamcaaDoorAlive04
/- Proofs and their checks, of the document, as sayings of the machine of plain values. -/
namespace Go.Proofs.YthmepecedjamcaaDoor
open Go.RowKit
set_option linter.unnecessarySimpa false
theorem isEmpty_dsP (p : List D) : p.isEmpty = (((dsP p).length : Int) == 0) := by cases p <;> simp [dsP]; omega
theorem last_at (p : List D) : p.getLastD D.zero = p.getD (p.length - 1) D.zero := by
  rw [List.getLastD_eq_getLast?, List.getLast?_eq_getElem?]; simp [List.getD]
theorem dsP_init (p : List D) : ((dsP p).drop 0).take (p.length - 1 - 0) = dsP p.dropLast := by
  rw [dsP_take, List.dropLast_eq_take]
theorem wrap_sub {a b : Nat} (h : b ≤ a) (ha : a ≤ 1000000000) : IntKind.i64.wrap ((a : Int) - (b : Int)) = ((a - b : Nat) : Int) := by
  rw [wrap64 (by omega) (by omega)]; omega
theorem wrap_len {p : List D} (h : p ≠ []) (ha : p.length ≤ 1000000000) : IntKind.i64.wrap (((dsP p).length : Int) - 1) = ((p.length - 1 : Nat) : Int) := by
  have : 0 < p.length := List.length_pos_iff.2 h
  rw [dsP_len, wrap64 (by omega) (by omega)]; omega
/-- Whether a proof shows it, whatever the numbers. -/
def checkE (root : D) (n i : Int) (leaf : D) (p : List D) : Bool := if n > 1000 ∨ i < 0 ∨ i ≥ n then false else rcheckE root n.toNat i.toNat leaf p
theorem checkE_no {root : D} {n i : Int} {leaf : D} {p : List D} (h : n > 1000 ∨ i < 0 ∨ i ≥ n) : checkE root n i leaf p = false := if_pos h
theorem checkE_in {root : D} {n i : Nat} {leaf : D} {p : List D} (h : n ≤ 1000) (hi : i < n) : checkE root n i leaf p = rcheckE root n i leaf p := by
  unfold checkE; rw [if_neg (by omega)]; rfl
theorem checkE_long {root : D} {n i : Int} {leaf : D} {p : List D} (h : 20 < p.length) : checkE root n i leaf p = false := by
  unfold checkE
  split
  · rfl
  · exact rcheck_long root _ _ leaf p (by omega) h
/-- Whether a proof shows that a list goes on, whatever the numbers. -/
def checkOnE (old : D) (m : Int) (root : D) (n : Int) (p : List D) : Bool := if n > 1000 ∨ m < 1 ∨ m > n then false else rcheckOnE old m.toNat root n.toNat p
theorem checkOnE_no {old root : D} {m n : Int} {p : List D} (h : n > 1000 ∨ m < 1 ∨ m > n) : checkOnE old m root n p = false := if_pos h
theorem checkOnE_in {old root : D} {m n : Nat} {p : List D} (h : n ≤ 1000) (h1 : 1 ≤ m) (h2 : m ≤ n) : checkOnE old m root n p = rcheckOnE old m root n p := by
  unfold checkOnE; rw [if_neg (by omega)]; rfl
theorem checkOnE_long {old root : D} {m n : Int} {p : List D} (h : 20 < p.length) : checkOnE old m root n p = false := by
  unfold checkOnE
  split
  · rfl
  · exact rcheckOn_long old _ root _ p (by omega) (by omega) (by omega) h
theorem rep_tup_sl {E : Env} {l : List D} {x : Value} {z : Int} (h : Rep E (.sl .any (dsP l)) x) : Rep E (.tup [.sl .any (dsP l), .v (.int .i64 z)]) (.tuple #[x, .int .i64 z]) := .tup _ _ rfl fun i hi => by
  have hi : i < 2 := hi
  match i, hi with
  | 0, _ => exact h
  | 1, _ => exact .v _
end Go.Proofs.YthmepecedjamcaaDoor
/- merkle.Check and merkle.CheckOn, with what is left of a proof in a box. -/
namespace Go.Proofs.YthmepecedjamcaaDoor
open Go.RowKit
set_option linter.unnecessarySimpa false
/-- A call that is handed one box, ahead of plain values. -/
theorem vcCall_box {C : Ctx} {np : Nat} {f : FuncId} {k : Nat} {az : List PV} {cs cs' out : List PV} {hp : Nat → HC} {K : Eff → Prop} {r : PV} (h : Spec C f (.ptr 1 0 :: az) [cs'] r [out]) (ha : az.all PV.plain = true) (hk : k ≠ 0) (hc : hp k = .cells cs)
    (hl : cs.all PV.leaf = true) (hd : cs.map PV.dem1 = cs') (ho : out.all PV.plain1 = true) (hK : K ⟨r, [(k, .cells out)], [k]⟩) : vcCall C np f (.ptr k 0 :: az) hp K := by
  have hpl := List.all_eq_true.1 ha
  subst hd
  refine ⟨[], [k], .ptr 1 0 :: az, [.cells cs], r, [.cells out], ?_, by simp, rfl, fun j hj => ?_, ?_, ?_, ?_, h, hK⟩
  · rw [List.map_cons]
    congr 1
    rw [show az.map (ren [k]) = az.map id from List.map_congr_left fun a h => by
      have := hpl a h
      cases a <;> first | rfl | simp [PV.plain] at this]
    exact List.map_id az
  · have : j = 0 := by simpa using hj
    subst this
    exact ⟨hk, hc⟩
  · intro c hc'
    obtain rfl : c = .cells cs := by simpa using hc'
    exact hl
  · intro c hc'
    obtain rfl : c = .cells out := by simpa using hc'
    exact ho
  · intro a ha'
    rcases List.mem_cons.1 ha' with rfl | ha'
    · exact .inr (.inl ⟨1, 0, rfl, Nat.le_refl 1, Nat.le_refl 1⟩)
    · exact .inl (hpl a ha')
def restP (p : List D) (b : Bool) : List PV := [.sl .any (dsP p), .v (.bool b)]
theorem lastE_len (p : List D) (b : Bool) : (lastE (p, b)).2.1.length ≤ p.length := by
  unfold lastE
  split <;> simp
theorem climbE_len (n : Nat) : ∀ (i : Nat) (leaf : D) (p : List D) (b : Bool), (climbE n i leaf (p, b)).2.1.length ≤ p.length := by
  induction n using Nat.strongRecOn with
  | ind n ih =>
    intro i leaf p b
    have hl := lastE_len p b
    by_cases h : 2 ≤ n
    · have h1 := halfE_lt h
      have h2 := halfE_pos n
      by_cases hi : i < halfE n
      · rw [climbE_left leaf _ h hi]; exact Nat.le_trans (ih _ h1 _ _ _ _) hl
      · rw [climbE_right leaf _ h hi]; exact Nat.le_trans (ih _ (by omega) _ _ _ _) hl
    · rw [climbE_one i leaf _ (by omega)]; exact Nat.le_refl _
end Go.Proofs.YthmepecedjamcaaDoor
/- merkle.CheckOn, with what is left of a proof in a box; the program's own sign of life. -/
namespace Go.Proofs.YthmepecedjamcaaDoor
open Go.RowKit
set_option linter.unnecessarySimpa false
end Go.Proofs.YthmepecedjamcaaDoor
/- Laws of chapter 04: proofs are given and shown. -/
namespace Go.Proofs.YthmepecedjamcaaDoor
open Go.RowKit
set_option linter.unnecessarySimpa false
theorem rep_nil (E : Env) : Rep E (.sl .any (dsP [])) (.slice none 0 0) :=
  .sl .any [] none 0 0 0 0 (fun _ _ => undef) (Nat.le_refl _) (Nat.zero_le _) (fun h => by cases h) (fun _ h => by cases h) (fun _ h => absurd h (Nat.not_lt_zero _)) (fun h => absurd rfl h) (fun _ _ h => absurd h (Nat.not_lt_zero _)) (fun _ _ h => absurd h (Nat.not_lt_zero _))
theorem s_no {f : FuncId} {l : List D} {x : Int} (h : ∀ A c w, Calls Tryd.prog f #[.slice A l.length c, .int .i64 x] w fun e w' => e = .returned (.tuple #[.slice none 0 0, .int .i64 1]) ∧ Grow w w') : Spec (Ctx.mk Tryd.prog globX (0 + 1) Places) f [.sl .any (dsP l), .v (.int .i64 x)] [] (.tup [.sl .any (dsP []), .v (.int .i64 1)]) [] :=
  spec_val rfl (fun E => rep_tup_sl (rep_nil E)) fun E vs hp hF ha => by
    obtain ⟨a, y, rfl, r, r'⟩ := repC2 ha
    obtain ⟨A, c, rfl, _⟩ := rep_ds hF r
    rw [rep_v r']
    exact h A c E.w
def proveE (l : List D) (x : Int) : List D × Int := if 0 ≤ x ∧ x < l.length then (wayE noneE l x.toNat, 0) else ([], 1)
def proveOnE (l : List D) (x : Int) : List D × Int := if 1 ≤ x ∧ x ≤ l.length then (goesE noneE l x.toNat true, 0) else ([], 1)
theorem getD_of {cs : Array Value} {i : Nat} {v : Value} (h : cs[i]? = some v) : cs.getD i undef = v := by
  rw [Array.getD_eq_getD_getElem?, h]; rfl
theorem rep_ask {w : World} {cs : Array Value} {a b : D} {x y : Int} {A : Option Addr} {m c : Nat} {p : List D} (hz : cs.size = 11) (k0 : ∀ k, k < 4 → cs[0 + k]? = some (u (a.1.getD k 0))) (k1 : ∀ k, k < 4 → cs[4 + k]? = some (u (b.1.getD k 0)))
    (k2 : cs[8]? = some (.int .i64 x)) (k3 : cs[9]? = some (.int .i64 y)) (k4 : cs[10]? = some (.slice A m c)) (hs : SlD w A m c p) : Rep (allOf w) (.agg (dP a ++ dP b ++ [.v (.int .i64 x), .v (.int .i64 y), .sl .any (dsP p)])) (.agg cs) := by
  refine .agg _ _ (by rw [hz]; rfl) fun i hi => ?_
  have hi : i < 11 := hi
  match i, hi with
  | 0, _ => rw [getD_of (k0 0 (by omega))]; exact .v _
  | 1, _ => rw [getD_of (k0 1 (by omega))]; exact .v _
  | 2, _ => rw [getD_of (k0 2 (by omega))]; exact .v _
  | 3, _ => rw [getD_of (k0 3 (by omega))]; exact .v _
  | 4, _ => rw [getD_of (k1 0 (by omega))]; exact .v _
  | 5, _ => rw [getD_of (k1 1 (by omega))]; exact .v _
  | 6, _ => rw [getD_of (k1 2 (by omega))]; exact .v _
  | 7, _ => rw [getD_of (k1 3 (by omega))]; exact .v _
  | 8, _ => rw [getD_of k2]; exact .v _
  | 9, _ => rw [getD_of k3]; exact .v _
  | 10, _ => rw [getD_of k4]; exact sl_ds hs
end Go.Proofs.YthmepecedjamcaaDoor
