/- What any values (40 at most of each) tell of two messages is what the document says. The listed variable digest.places is tied to the program's text by the given tie. -/
import Derived.Test.YteiimkglmiadbabDoorLAhead
import Derived.Test.YteiimkglmiadbabDoorSeat
import Derived.Test.YteiimkglmiadbabDoorFld
import Derived.Test.YteiimkglmiadbabDoorCards
import Derived.Test.YteiimkglmiadbabDoorTie
namespace Go.Proofs.YteiimkglmiadbabDoor
open Go Go.ChangeShapes Go.WideShapes Go.ChangeAt Go.WideMaps Go.WideElems Go.RowKit
set_option maxRecDepth 100000 in
theorem onetimeAhead_lifted (os : Os) (started : os.Started) (H : Type) (enc : TypeId × Value → H) :
    ReturnsInHanded {} Tryd.checked os 3 .any (fun w args => (Rows.onetimeAheadSpec.pre enc Tryd.prog Tryd.f3 [] false w args ∧ laidMetH Tryd.prog laidL w) ∧ sizedMet enc Tryd.prog Tryd.f3 (OpenSpec.ofChange Rows.onetimeAheadSpec) false w args)
      (Rows.onetimeAheadSpec.post enc Tryd.prog Tryd.f3 false true false false) := by
  refine returnsInHanded_of_change_and (C := Tryd.checked) (X := fun w _ => laidMetH Tryd.prog laidL w) (fun _ _ _ hh h => h.of_heap hh) own started (by kernel_rfl) Tryd.func3
    (ChangeSpec.witness_shaped (enc := enc) (C := Tryd.checked) (os := os) (X := fun w _ => laidMetH Tryd.prog laidL w) false (World.doorLaid Tryd.prog 400 os) #[.agg #[.int .u32 0, .int .u32 0, .int .u32 0, .int .u32 0, .int .u32 0, .int .u32 0, .int .u32 0, .int .u32 0, .slice none 0 0, .slice none 0 0]] 8 rfl (World.shaped_of_RefB (by kernel_rfl) (by kernel_rfl)) (by kernel_rfl) (by kernel_rfl) (by kernel_rfl) (door_met os _)) ?_
  intro W base args ds gs before hval0 hW _ _ hL _
  have hval : ∀ (j : Nat) t v, Tryd.f3.params[j]? = some t → args[j]? = some v → Value.okWide Tryd.prog W .any base t v := hval0
  have hW' := hW
  obtain ⟨p, q, hA0, hV, rfl, hfz, hnd⟩ := hW
  have hA : DataW.TrodAll enc Tryd.prog W 0 (fun _ => true) true Tryd.f3.params.toList args.toList ds p := hA0
  rw [Tryd.params3] at hA hval
  obtain ⟨v0, d0, rfl, rfl, h0⟩ := trodAll_one hA
  obtain ⟨rfl, rfl⟩ := trodVars_none hV
  obtain ⟨cs0, xs0, n0, rfl, _, hl0, hf0⟩ := open_st Tryd.underlying28 (hval 0 28 v0 rfl rfl) h0
  obtain ⟨x00, k00⟩ := field_D (o := 0) Tryd.underlying24 Tryd.underlying22 cells_u32 cells_D hl0 (by simp) (hf0 0 _ rfl)
  obtain ⟨x01, k01⟩ := field_D (o := 4) Tryd.underlying24 Tryd.underlying22 cells_u32 cells_D hl0 (by simp) (hf0 1 _ rfl)
  obtain ⟨A02, m02, c02, l02, k02, s02⟩ := field_Ds (o := 8) Tryd.underlying26 Tryd.underlying24 Tryd.underlying22 cells_u32 cells_D (by kernel_rfl) hl0 (by simp) (hf0 2 _ rfl)
  obtain ⟨A03, m03, c03, l03, k03, s03⟩ := field_Ds (o := 9) Tryd.underlying26 Tryd.underlying24 Tryd.underlying22 cells_u32 cells_D (by kernel_rfl) hl0 (by simp) (hf0 3 _ rfl)
  refine (lahead_walk cs0 x00 x01 A02 m02 c02 l02 A03 m03 c03 l03 W (of_laid hL) k00 k01 k02 s02 k03 s03).mono fun e W' ⟨he, hb⟩ => ?_
  subst he
  exact ⟨_, rfl, law_post laidOut Tryd.underlying4 rfl (by kernel_rfl) rfl hW' rfl hb⟩

theorem onetimeAhead_holds : Rows.OnetimeAheadSaid :=
  OpenClaim.holds_of_wide 3 Tryd.f3 rfl rfl rfl rfl rfl rfl rfl ⟨rfl, rfl, rfl, rfl, rfl⟩ rfl rfl rfl rfl rfl (by kernel_rfl) Tryd.func3 (by kernel_rfl)
    (of_decide_eq_true (by kernel_rfl)) (by unfold Func.isWrapper; rw [if_neg (of_decide_eq_false (by kernel_rfl))]; exact ⟨rfl, rfl⟩)
    (fun os started H enc _ => onetimeAhead_lifted os started H enc)
theorem onetimeAhead_card : Rows.OnetimeAheadCardSaid :=
  Claim7.holds_tied_plain_at .later [] [.data] true (true, "ad4a9aa3bca4ec9ed59be2d856c13e758a1dea37f56e8d12a50954577b9ef933") false
    onetimeAhead_holds (fun _ h => by cases h) (by kernel_rfl) (fun _ h => by cases h) onetimeAhead_row_tie rfl ⟨rfl, rfl⟩ (by kernel_rfl) rfl
    (fun f fn hf hfn => by
      obtain rfl : f = 3 := Option.some.inj ((show Tryd.prog.funcNamed "seedcorn/seedcornlaw05.OnetimeAhead" = some 3 by kernel_rfl).symm.trans hf) |>.symm
      obtain rfl : fn = Tryd.f3 := (Option.some.inj (Tryd.func3.symm.trans hfn)).symm
      exact ⟨by kernel_rfl, fun j t ht => by
        rw [Tryd.params3] at ht
        have hm : t ∈ [28] := by simpa using Array.mem_of_getElem? ht
        have hall : ([28].all fun u => !Tryd.prog.wantsStandIn u) = true := by kernel_rfl
        exact (show Tryd.prog.wantsStandIn t = false by simpa using List.all_eq_true.1 hall t hm)⟩)
    (by kernel_rfl)
end Go.Proofs.YteiimkglmiadbabDoor
