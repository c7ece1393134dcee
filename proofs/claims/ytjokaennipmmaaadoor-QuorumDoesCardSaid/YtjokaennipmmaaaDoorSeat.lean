/- What every row of this seat wants of the program: closed facts, and the listed variable's cells out of the row's condition. -/
import Derived.Test.YtjokaennipmmaaaDoorRowA
import Derived.Test.YtjokaennipmmaaaDoorRows
import Derived.SevenTiedAt
namespace Go.Proofs.YtjokaennipmmaaaDoor
open Go Go.ChangeShapes Go.WideShapes Go.ChangeAt Go.WideMaps Go.WideElems Go.RowKit

theorem own : ownKnob Tryd.prog.godebug = none := by kernel_rfl
theorem laidOut : laidOutB Tryd.prog = true := by kernel_rfl
theorem gPlaces : Tryd.prog.globalNamed "seedcorn/digest.places" = some 0 := by kernel_rfl
theorem tPlaces : (Tryd.prog.globals[0]?).map (·.type) = some 99 := by kernel_rfl
theorem cells_int : Tryd.prog.cellsOf 3 = 1 := by kernel_rfl
theorem cells_u32 : Tryd.prog.cellsOf 28 = 1 := by kernel_rfl
theorem cells_str : Tryd.prog.cellsOf 9 = 1 := by kernel_rfl
theorem cells_D : Tryd.prog.cellsOf 30 = 4 := by kernel_rfl
def laidL : List (String × DataW Unit) := [("seedcorn/digest.places", Rows.laid_seedcorn_digest_places)]
theorem door_met (os : Os) (args : Array Value) : laidMetH Tryd.prog laidL ((World.doorLaid Tryd.prog 400 os).forCall (fun _ _ => 0) ⟨#[], args, []⟩).memory :=
  laidMetH_of_parts3 (fuel := 8) (laidMet_of_run' 8 (by kernel_rfl) (by kernel_rfl)) (by kernel_rfl) (by kernel_rfl)
/-- What the condition gives the walks. -/
theorem of_laid {W : World} (h : laidMetH Tryd.prog laidL W) : Places W := by
  rw [MakeChecks.laidMetH_plain _ _ _ (by kernel_rfl)] at h
  obtain ⟨ps, ⟨g0, t0, cs0, f0, p0, q0, hg0, ht0, hv0, hd0, _, _⟩, _, _⟩ := h
  obtain rfl := Option.some.inj (gPlaces.symm.trans hg0)
  obtain rfl := Option.some.inj (tPlaces.symm.trans ht0)
  obtain ⟨xs, m1, _, hx1, hlen, hn, hel⟩ := DataW.trod_array Tryd.underlying99 hd0
  have c4 : Tryd.prog.cellsOf 99 = 4 := by kernel_rfl
  rw [c4] at hlen
  have hval : ∀ i, i < 4 → cs0[i]? = some (.int .i64 (placeN i : Int)) := by
    intro i hi
    have h1 := hel i hi
    rw [cells_int, Nat.mul_one] at h1
    have hci : i < cs0.size := by have := hlen; simp at this; omega
    have e1 : (cs0.toList.drop i).take 1 = [cs0[i]] := by
      rw [List.drop_eq_getElem_cons (by simpa using hci)]
      simp
    rw [e1, List.getElem?_eq_getElem (by omega)] at h1
    obtain ⟨k, e2, e3, _⟩ := DataW.trod_int Tryd.underlying3 h1
    simp only [List.cons.injEq, and_true] at e2
    rw [Array.getElem?_eq_getElem hci, e2]
    simp only [Prod.mk.injEq, DataW.agg.injEq, Rows.laid_seedcorn_digest_places] at hx1
    have hx := hx1.1
    have hget : (xs.map (·.1))[i]? = some (.lit (.int .i64 k)) := by
      rw [List.getElem?_map, List.getElem?_eq_getElem (by omega)]
      rw [e3]; rfl
    rw [← hx] at hget
    have hc : i = 0 ∨ i = 1 ∨ i = 2 ∨ i = 3 := by omega
    rcases hc with rfl | rfl | rfl | rfl <;> simp at hget <;> simp [← hget, placeN]
  refine ⟨?_, fun j hj => ?_⟩
  · have h1 := World.var?_cell hg0 hv0 0
    rw [hval 0 (by omega)] at h1
    rcases Nat.lt_or_ge 0 W.heap.size with hlt | hge
    · exact hlt
    · unfold World.cell? at h1
      rw [Array.getElem?_eq_none hge] at h1
      cases h1
  · exact (World.var?_cell hg0 hv0 j).trans (hval j hj)

end Go.Proofs.YtjokaennipmmaaaDoor
