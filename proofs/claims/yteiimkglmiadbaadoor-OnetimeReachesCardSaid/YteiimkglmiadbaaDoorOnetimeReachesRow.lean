/- The public key that any values (40 at most) reach with any message, and whether they hold by any key, are the ones of the document. The listed variable digest.places is tied to the program's text by the given tie. -/
import Derived.Test.YteiimkglmiadbaaDoorLReaches
import Derived.Test.YteiimkglmiadbaaDoorSeat
import Derived.Test.YteiimkglmiadbaaDoorRowS
import Derived.Test.YteiimkglmiadbaaDoorCards
import Derived.Test.YteiimkglmiadbaaDoorTie
namespace Go.Proofs.YteiimkglmiadbaaDoor
open Go Go.ChangeShapes Go.WideShapes Go.ChangeAt Go.WideMaps Go.WideElems Go.RowKit
set_option maxRecDepth 100000 in
theorem onetimeReaches_lifted (os : Os) (started : os.Started) (H : Type) (enc : TypeId × Value → H) :
    ReturnsInHanded {} Tryd.checked os 6 .any (fun w args => (Rows.onetimeReachesSpec.pre enc Tryd.prog Tryd.f6 [] false w args ∧ laidMetH Tryd.prog laidL w) ∧ sizedMet enc Tryd.prog Tryd.f6 (OpenSpec.ofChange Rows.onetimeReachesSpec) false w args)
      (Rows.onetimeReachesSpec.post enc Tryd.prog Tryd.f6 false true false false) := by
  refine returnsInHanded_of_change_and (C := Tryd.checked) (X := fun w _ => laidMetH Tryd.prog laidL w) (fun _ _ _ hh h => h.of_heap hh) own started (by kernel_rfl) Tryd.func6
    (ChangeSpec.witness_shaped (enc := enc) (C := Tryd.checked) (os := os) (X := fun w _ => laidMetH Tryd.prog laidL w) false (World.doorLaid Tryd.prog 400 os) #[.agg #[.int .u32 0, .int .u32 0, .int .u32 0, .int .u32 0], .agg #[.int .u32 0, .int .u32 0, .int .u32 0, .int .u32 0], .slice none 0 0] 8 rfl (World.shaped_of_RefB (by kernel_rfl) (by kernel_rfl)) (by kernel_rfl) (by kernel_rfl) (by kernel_rfl) (door_met os _)) ?_
  intro W base args ds gs before hval0 hW _ _ hL _
  have hval : ∀ (j : Nat) t v, Tryd.f6.params[j]? = some t → args[j]? = some v → Value.okWide Tryd.prog W .any base t v := hval0
  have hW' := hW
  obtain ⟨p, q, hA0, hV, rfl, hfz, hnd⟩ := hW
  have hA : DataW.TrodAll enc Tryd.prog W 0 (fun _ => true) true Tryd.f6.params.toList args.toList ds p := hA0
  rw [Tryd.params6] at hA hval
  obtain ⟨v0, v1, v2, d0, d1, d2, p0, p1, p2, rfl, rfl, rfl, h0, h1, h2⟩ := trodAll_three hA
  obtain ⟨rfl, rfl⟩ := trodVars_none hV
  obtain ⟨x0, rfl⟩ := open_D Tryd.underlying24 Tryd.underlying22 cells_u32 cells_D (hval 0 24 v0 rfl rfl) h0
  obtain ⟨x1, rfl⟩ := open_D Tryd.underlying24 Tryd.underlying22 cells_u32 cells_D (hval 1 24 v1 rfl rfl) h1
  obtain ⟨A2, n2, c2, l2, rfl, s2⟩ := open_Ds Tryd.underlying33 Tryd.underlying24 Tryd.underlying22 cells_u32 cells_D (hval 2 33 v2 rfl rfl) h2
  refine (lreaches_walk x0 x1 A2 n2 c2 l2 W (of_laid hL) s2).mono fun e W' ⟨he, hb⟩ => ?_
  subst he
  exact ⟨_, rfl, law_post laidOut Tryd.underlying4 rfl (by kernel_rfl) rfl hW' rfl hb⟩

theorem onetimeReaches_holds : Rows.OnetimeReachesSaid :=
  OpenClaim.holds_of_wide 6 Tryd.f6 rfl rfl rfl rfl rfl rfl rfl ⟨rfl, rfl, rfl, rfl, rfl⟩ rfl rfl rfl rfl rfl (by kernel_rfl) Tryd.func6 (by kernel_rfl)
    (of_decide_eq_true (by kernel_rfl)) (by unfold Func.isWrapper; rw [if_neg (of_decide_eq_false (by kernel_rfl))]; exact ⟨rfl, rfl⟩)
    (fun os started H enc _ => onetimeReaches_lifted os started H enc)
theorem onetimeReaches_card : Rows.OnetimeReachesCardSaid :=
  Claim7.holds_tied_plain_at .later [] [.data] true (true, "585443ab70b863ff5652f3a2b6121fb0e19f066a065ab9198386eb7d70a5c70a") false
    onetimeReaches_holds (fun _ h => by cases h) (by kernel_rfl) (fun _ h => by cases h) onetimeReaches_row_tie rfl ⟨rfl, rfl⟩ (by kernel_rfl) rfl
    (fun f fn hf hfn => by
      obtain rfl : f = 6 := Option.some.inj ((show Tryd.prog.funcNamed "seedcorn/seedcornlaw05.OnetimeReaches" = some 6 by kernel_rfl).symm.trans hf) |>.symm
      obtain rfl : fn = Tryd.f6 := (Option.some.inj (Tryd.func6.symm.trans hfn)).symm
      exact ⟨by kernel_rfl, fun j t ht => by
        rw [Tryd.params6] at ht
        have hm : t ∈ [24, 33] := by simpa using Array.mem_of_getElem? ht
        have hall : ([24, 33].all fun u => !Tryd.prog.wantsStandIn u) = true := by kernel_rfl
        exact (show Tryd.prog.wantsStandIn t = false by simpa using List.all_eq_true.1 hall t hm)⟩)
    (by kernel_rfl)
end Go.Proofs.YteiimkglmiadbaaDoor
