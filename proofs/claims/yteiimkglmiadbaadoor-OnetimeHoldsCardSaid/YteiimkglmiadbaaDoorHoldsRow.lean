/- The law OnetimeHolds answers true whatever the seed and the message; both read as they did. The listed variable digest.places is tied to the program's text by the given tie. -/
import Derived.Test.YteiimkglmiadbaaDoorHolds
import Derived.Test.YteiimkglmiadbaaDoorRow
import Derived.Test.YteiimkglmiadbaaDoorCards
import Derived.Test.YteiimkglmiadbaaDoorTie
import Derived.SevenTiedAt
namespace Go.Proofs.YteiimkglmiadbaaDoor
open Go Go.ChangeShapes Go.WideShapes Go.ChangeAt Go.WideMaps Go.WideElems Go.RowKit

theorem own : ownKnob Tryd.prog.godebug = none := by kernel_rfl
theorem laidOut : laidOutB Tryd.prog = true := by kernel_rfl
theorem gPlaces : Tryd.prog.globalNamed "seedcorn/digest.places" = some 0 := by kernel_rfl
theorem tPlaces : (Tryd.prog.globals[0]?).map (·.type) = some 58 := by kernel_rfl
theorem cells_int : Tryd.prog.cellsOf 3 = 1 := by kernel_rfl
theorem cells_u32 : Tryd.prog.cellsOf 22 = 1 := by kernel_rfl
theorem cells_D : Tryd.prog.cellsOf 24 = 4 := by kernel_rfl
def laidL : List (String × DataW Unit) := [("seedcorn/digest.places", Rows.laid_seedcorn_digest_places)]
theorem door_met (os : Os) (args : Array Value) : laidMetH Tryd.prog laidL ((World.doorLaid Tryd.prog 400 os).forCall (fun _ _ => 0) ⟨#[], args, []⟩).memory :=
  laidMetH_of_parts3 (fuel := 8) (laidMet_of_run' 8 (by kernel_rfl) (by kernel_rfl)) (by kernel_rfl) (by kernel_rfl)
/-- What the condition gives the walks. -/
theorem of_laid {W : World} (h : laidMetH Tryd.prog laidL W) : Places W := by
  rw [MakeChecks.laidMetH_plain _ _ _ (by kernel_rfl)] at h
  obtain ⟨ps, ⟨g0, t0, cs0, f0, p0, q0, hg0, ht0, hv0, hd0, _, _⟩, _, _⟩ := h
  obtain rfl := Option.some.inj (gPlaces.symm.trans hg0)
  obtain rfl := Option.some.inj (tPlaces.symm.trans ht0)
  obtain ⟨xs, m1, _, hx1, hlen, hn, hel⟩ := DataW.trod_array Tryd.underlying58 hd0
  have c4 : Tryd.prog.cellsOf 58 = 4 := by kernel_rfl
  rw [c4] at hlen
  have hval : ∀ i, i < 4 → cs0[i]? = some (.int .i64 (placeN i : Int)) := by
    intro i hi
    have h1 := hel i hi
    rw [cells_int, Nat.mul_one] at h1
    have hci : i < cs0.size := by have := hlen; simp at this; omega
    have e1 : (cs0.toList.drop i).take 1 = [cs0[i]] := by
      rw [List.drop_eq_getElem_cons (by simpa using hci)]
      simp
    rw [e1, List.getElem?_eq_getElem (by omega)] at h1
    obtain ⟨k, e2, e3, _⟩ := DataW.trod_int Tryd.underlying3 h1
    simp only [List.cons.injEq, and_true] at e2
    rw [Array.getElem?_eq_getElem hci, e2]
    simp only [Prod.mk.injEq, DataW.agg.injEq, Rows.laid_seedcorn_digest_places] at hx1
    have hx := hx1.1
    have hget : (xs.map (·.1))[i]? = some (.lit (.int .i64 k)) := by
      rw [List.getElem?_map, List.getElem?_eq_getElem (by omega)]
      rw [e3]; rfl
    rw [← hx] at hget
    have hc : i = 0 ∨ i = 1 ∨ i = 2 ∨ i = 3 := by omega
    rcases hc with rfl | rfl | rfl | rfl <;> simp at hget <;> simp [← hget, placeN]
  refine ⟨?_, fun j hj => ?_⟩
  · have h1 := World.var?_cell hg0 hv0 0
    rw [hval 0 (by omega)] at h1
    rcases Nat.lt_or_ge 0 W.heap.size with hlt | hge
    · exact hlt
    · unfold World.cell? at h1
      rw [Array.getElem?_eq_none hge] at h1
      cases h1
  · exact (World.var?_cell hg0 hv0 j).trans (hval j hj)

set_option maxRecDepth 100000 in
theorem onetimeHolds_lifted (os : Os) (started : os.Started) (H : Type) (enc : TypeId × Value → H) :
    ReturnsInHanded {} Tryd.checked os 5 .any (fun w args => (Rows.onetimeHoldsSpec.pre enc Tryd.prog Tryd.f5 [] false w args ∧ laidMetH Tryd.prog laidL w) ∧ sizedMet enc Tryd.prog Tryd.f5 (OpenSpec.ofChange Rows.onetimeHoldsSpec) false w args)
      (Rows.onetimeHoldsSpec.post enc Tryd.prog Tryd.f5 false true false false) := by
  refine returnsInHanded_of_change_and (C := Tryd.checked) (X := fun w _ => laidMetH Tryd.prog laidL w) (fun _ _ _ hh h => h.of_heap hh) own started (by kernel_rfl) Tryd.func5
    (ChangeSpec.witness_shaped (enc := enc) (C := Tryd.checked) (os := os) (X := fun w _ => laidMetH Tryd.prog laidL w) false (World.doorLaid Tryd.prog 400 os) #[.agg #[.int .u32 0, .int .u32 0, .int .u32 0, .int .u32 0], .agg #[.int .u32 0, .int .u32 0, .int .u32 0, .int .u32 0]] 8 rfl (World.shaped_of_RefB (by kernel_rfl) (by kernel_rfl)) (by kernel_rfl) (by kernel_rfl) (by kernel_rfl) (door_met os _)) ?_
  intro W base args ds gs before hval0 hW _ _ hL _
  have hval : ∀ (j : Nat) t v, Tryd.f5.params[j]? = some t → args[j]? = some v → Value.okWide Tryd.prog W .any base t v := hval0
  have hW' := hW
  obtain ⟨p, q, hA0, hV, rfl, hfz, hnd⟩ := hW
  have hA : DataW.TrodAll enc Tryd.prog W 0 (fun _ => true) true Tryd.f5.params.toList args.toList ds p := hA0
  rw [Tryd.params5] at hA hval
  obtain ⟨v0, v1, d0, d1, p0, p1, rfl, rfl, rfl, h0, h1⟩ := trodAll_two hA
  obtain ⟨rfl, rfl⟩ := trodVars_none hV
  obtain ⟨x0, rfl⟩ := open_D Tryd.underlying24 Tryd.underlying22 cells_u32 cells_D (hval 0 24 v0 rfl rfl) h0
  obtain ⟨x1, rfl⟩ := open_D Tryd.underlying24 Tryd.underlying22 cells_u32 cells_D (hval 1 24 v1 rfl rfl) h1
  refine (law_holds_walk x0 x1 W (of_laid hL)).mono fun e W' ⟨he, hb⟩ => ?_
  subst he
  exact ⟨_, rfl, law_post laidOut Tryd.underlying4 rfl (by kernel_rfl) rfl hW' rfl hb⟩

theorem onetimeHolds_holds : Rows.OnetimeHoldsSaid :=
  OpenClaim.holds_of_wide 5 Tryd.f5 rfl rfl rfl rfl rfl rfl rfl ⟨rfl, rfl, rfl, rfl, rfl⟩ rfl rfl rfl rfl rfl (by kernel_rfl) Tryd.func5 (by kernel_rfl)
    (of_decide_eq_true (by kernel_rfl)) (by unfold Func.isWrapper; rw [if_neg (of_decide_eq_false (by kernel_rfl))]; exact ⟨rfl, rfl⟩)
    (fun os started H enc _ => onetimeHolds_lifted os started H enc)
theorem onetimeHolds_card : Rows.OnetimeHoldsCardSaid :=
  Claim7.holds_tied_plain_at .later [] [.data] true (true, "585443ab70b863ff5652f3a2b6121fb0e19f066a065ab9198386eb7d70a5c70a") false
    onetimeHolds_holds (fun _ h => by cases h) (by kernel_rfl) (fun _ h => by cases h) onetimeHolds_row_tie rfl ⟨rfl, rfl⟩ (by kernel_rfl) rfl
    (fun f fn hf hfn => by
      obtain rfl : f = 5 := Option.some.inj ((show Tryd.prog.funcNamed "seedcorn/seedcornlaw05.OnetimeHolds" = some 5 by kernel_rfl).symm.trans hf) |>.symm
      obtain rfl : fn = Tryd.f5 := (Option.some.inj (Tryd.func5.symm.trans hfn)).symm
      exact ⟨by kernel_rfl, fun j t ht => by
        rw [Tryd.params5] at ht
        have hm : t ∈ [24] := by simpa using Array.mem_of_getElem? ht
        have hall : ([24].all fun u => !Tryd.prog.wantsStandIn u) = true := by kernel_rfl
        exact (show Tryd.prog.wantsStandIn t = false by simpa using List.all_eq_true.1 hall t hm)⟩)
    (by kernel_rfl)
end Go.Proofs.YteiimkglmiadbaaDoor
