import Derived.Test.YtjokaennipmmaaaDoorP4
import Derived.Test.YtjokaennipmmaaaDoorRReach
import Derived.Test.YtjokaennipmmaaaDoorB2
/- Rows of words, the bytes of strings, and one-time keys, as sayings of the machine of plain values. -/
namespace Go.Proofs.YtjokaennipmmaaaDoor
open Go.RowKit
def wsP (l : List UInt32) : List (List PV) := l.map fun x => [.v (u x)]
theorem wsP_len (l : List UInt32) : (wsP l).length = l.length := List.length_map _
theorem wsP_getD {l : List UInt32} {j : Nat} (h : j < l.length) : (wsP l).getD j [] = [.v (u (l.getD j 0))] := by simp [wsP, List.getD, h]
theorem wsP_wide (l : List UInt32) (i : Nat) (h : i < (wsP l).length) : ((wsP l).getD i []).length = 1 := by
  rw [wsP_getD (by rw [wsP_len] at h; exact h)]; rfl
theorem rep_ws {E : Env} (hF : ∀ g i, E.F g i → g < E.w.heap.size) {k : K} {l : List UInt32} {x : Value} (r : Rep E (.sl k (wsP l)) x) : ∃ A c, x = .slice A l.length c ∧ SlU E.w A l.length c l := by
  generalize hes : wsP l = es at r
  cases r with
  | sl _ _ A c g o sz val h1 h2 h3 h4 h5 h6 hc hr =>
    subst hes
    rw [wsP_len] at h1 h5 hc hr ⊢
    refine ⟨A, c, rfl, h1, h2, rfl, fun hn => ?_⟩
    have hA := h6 (fun e => by have := wsP_len l; rw [e] at this; simp at this; omega)
    have hsz : sz = 1 := by
      have := h5 0 hn
      rw [wsP_getD hn] at this
      exact this.symm
    subst hsz
    refine ⟨g, o, hA, hF _ _ (hc 0 0 hn (by omega)).2.1, fun i hi => ?_⟩
    have h7 := (hc i 0 hi (by omega)).1
    have h8 := hr i 0 hi (by omega)
    rw [wsP_getD hi] at h8
    have h9 := h8.v_eq
    rw [h9] at h7
    simpa using h7
theorem s_rbytes (l : List UInt32) (hm : l.length ≤ 1000000) : Spec (Ctx.mk Tryd.prog globX (0 + 1) Places) 51 [.sl .any (wsP l)] [] (.v (.string ⟨(bytesE l).toArray⟩)) [] :=
  spec_val rfl (fun E => .v _) fun E vs hp hF ha => by
    obtain ⟨x, rfl, r⟩ := repC1 ha
    obtain ⟨A, c, rfl, h⟩ := rep_ws hF r
    exact rbytes_c l A _ c E.w hm h
theorem dP_words (d : D) : (wsP d.1).flatten = dP d := by
  obtain ⟨l, hl⟩ := d
  match l, hl with
  | [a, b, c, e], _ => rfl
/-- A digest that lies in a box, as a row of words. -/
theorem dP_fits (b off : Nat) (d : D) {cs : List PV} (h : (cs.drop off).take 4 = dP d) : (Frz.mk b off 4 1 (wsP d.1)).fits cs := by
  refine ⟨by rw [wsP_len]; exact d.2, wsP_wide d.1, ?_⟩
  show (cs.drop off).take (4 * 1) = _
  rw [dP_words]; exact h
theorem strCells_flat (s : ByteArray) : (strCells s).flatten = bytesL s := by
  unfold strCells bytesL
  generalize s.data.toList = l
  induction l with
  | nil => rfl
  | cons a l ih => simp only [List.map_cons, List.flatten_cons, ih]; rfl
theorem bytesL_len (s : ByteArray) : (bytesL s).length = s.size := by simp [bytesL]
theorem bytesL_mk (l : List UInt8) : bytesL ⟨l.toArray⟩ = l.map fun b => .v (.int .u8 b.toNat) := rfl
theorem bytesL_splice (l m : List UInt8) (k : Nat) : splice (bytesL ⟨l.toArray⟩) (bytesL ⟨m.toArray⟩) k = bytesL ⟨(l.take k ++ m ++ l.drop (k + m.length)).toArray⟩ := by
  unfold splice
  rw [bytesL_mk, bytesL_mk, bytesL_mk]
  simp [List.map_take, List.map_drop]
theorem strCells_wide (s : ByteArray) (i : Nat) (h : i < (strCells s).length) : ((strCells s).getD i []).length = 1 := by
  have hi' : i < s.data.toList.length := by simpa [strCells] using h
  simp only [strCells, List.getD, List.getElem?_map, List.getElem?_eq_getElem hi', Option.map_some, Option.getD_some]
  rfl
theorem s_rpublic (seed : D) : Spec (Ctx.mk Tryd.prog globX (0 + 1) Places) 46 [.agg (dP seed)] [] (.agg (dP (publicE seed))) [] :=
  spec_val rfl (fun E => rep_D E _) fun E vs hp hF ha => by
    obtain ⟨x, rfl, r⟩ := repC1 ha
    rw [rep_dP r]
    exact rpublic_c seed E.w
theorem s_rosign (seed msg : D) : Spec (Ctx.mk Tryd.prog globX (0 + 1) Places) 33 [.agg (dP seed), .agg (dP msg)] [] (.sl .any (dsP (signE seed msg))) [] :=
  spec_row fun E vs hp hF ha => by
    obtain ⟨x, y, rfl, r, r'⟩ := repC2 ha
    rw [rep_dP r, rep_dP r']
    exact (rsig_c seed msg E.w).mono fun e w' ⟨v, h1, h2, h3⟩ => ⟨v, _, h1, h2, h3⟩
theorem rep_tup_db (E : Env) (d : D) (b : Bool) : Rep E (.tup [.agg (dP d), .v (.bool b)]) (.tuple #[.agg (us d.1), .bool b]) := .tup _ _ rfl fun i hi => by
  have hi : i < 2 := hi
  match i, hi with
  | 0, _ => exact rep_D E d
  | 1, _ => exact .v _
theorem s_oreach (msg : D) (s : List D) : Spec (Ctx.mk Tryd.prog globX (0 + 1) Places) 27 [.agg (dP msg), .sl .any (dsP s)] [] (.tup [.agg (dP (reachP msg s).1), .v (.bool (reachP msg s).2)]) [] :=
  spec_val rfl (fun E => rep_tup_db E _ _) fun E vs hp hF ha => by
    obtain ⟨x, y, rfl, r, r'⟩ := repC2 ha
    obtain ⟨A, c, rfl, h⟩ := rep_ds hF r'
    rw [rep_dP r]
    exact reach_c msg A _ c s E.w hp h
theorem s_roreach (msg : D) (s : List D) : Spec (Ctx.mk Tryd.prog globX (0 + 1) Places) 41 [.agg (dP msg), .sl .any (dsP s)] [] (.tup [.agg (dP (reachP msg s).1), .v (.bool (reachP msg s).2)]) [] :=
  spec_val rfl (fun E => rep_tup_db E _ _) fun E vs hp hF ha => by
    obtain ⟨x, y, rfl, r, r'⟩ := repC2 ha
    obtain ⟨A, c, rfl, h⟩ := rep_ds hF r'
    rw [rep_dP r]
    exact rreach_c msg A _ c s E.w h
end Go.Proofs.YtjokaennipmmaaaDoor
