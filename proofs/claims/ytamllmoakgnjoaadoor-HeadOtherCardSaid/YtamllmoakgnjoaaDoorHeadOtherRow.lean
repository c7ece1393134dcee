/- A store in which an artifact is another one has lost what the head says, or two unlike lists of digests with one root are shown, or two unlike artifacts with one digest. The listed variable digest.places is tied to the program's text by the given tie. -/
import Derived.Test.YtamllmoakgnjoaaDoorL43c
import Derived.Test.YtamllmoakgnjoaaDoorSeat
import Derived.Test.YtamllmoakgnjoaaDoorOpen
import Derived.Test.YtamllmoakgnjoaaDoorCards
import Derived.Test.YtamllmoakgnjoaaDoorTie
namespace Go.Proofs.YtamllmoakgnjoaaDoor
open Go Go.ChangeShapes Go.WideShapes Go.ChangeAt Go.WideMaps Go.WideElems Go.RowKit
set_option maxRecDepth 100000 in
theorem headOther_lifted (os : Os) (started : os.Started) (H : Type) (enc : TypeId × Value → H) :
    ReturnsInHanded {} Tryd.checked os 9 .any (fun w args => (Rows.headOtherSpec.pre enc Tryd.prog Tryd.f9 [] false w args ∧ laidMetH Tryd.prog laidL w) ∧ sizedMet enc Tryd.prog Tryd.f9 (OpenSpec.ofChange Rows.headOtherSpec) false w args)
      (Rows.headOtherSpec.post enc Tryd.prog Tryd.f9 false true false false) := by
  refine returnsInHanded_of_change_and (C := Tryd.checked) (X := fun w _ => laidMetH Tryd.prog laidL w) (fun _ _ _ hh h => h.of_heap hh) own started (by kernel_rfl) Tryd.func9
    (ChangeSpec.witness_shaped (enc := enc) (C := Tryd.checked) (os := os) (X := fun w _ => laidMetH Tryd.prog laidL w) false (World.doorLaid Tryd.prog 400 os) #[.agg #[.slice none 0 0], .int .u8 0, .string ⟨#[]⟩] 8 rfl (World.shaped_of_RefB (by kernel_rfl) (by kernel_rfl)) (by kernel_rfl) (by kernel_rfl) (by kernel_rfl) (door_met os _)) ?_
  intro W base args ds gs before hval0 hW _ _ hL _
  have hval : ∀ (j : Nat) t v, Tryd.f9.params[j]? = some t → args[j]? = some v → Value.okWide Tryd.prog W .any base t v := hval0
  have hW' := hW
  obtain ⟨p, q, hA0, hV, rfl, hfz, hnd⟩ := hW
  have hA : DataW.TrodAll enc Tryd.prog W 0 (fun _ => true) true Tryd.f9.params.toList args.toList ds p := hA0
  rw [Tryd.params9] at hA hval
  obtain ⟨v0, v1, v2, d0, d1, d2, p0, p1, p2, rfl, rfl, rfl, h0, h1, h2⟩ := trodAll_three hA
  obtain ⟨rfl, rfl⟩ := trodVars_none hV
  obtain ⟨A0, n0, c0, l0, rfl, s0, z0⟩ := open_store (hval 0 24 v0 rfl rfl) h0
  obtain ⟨x1, rfl, -, -, b1⟩ := open_int Tryd.underlying5 (hval 1 5 v1 rfl rfl) h1
  replace b1 := bounds_u8 b1
  obtain ⟨x2, rfl, -, -, b2⟩ := open_string Tryd.underlying9 (hval 2 9 v2 rfl rfl) h2
  refine (headOther_walk A0 n0 c0 l0 x1 x2 W (of_laid hL) s0 z0 b1.1 b1.2 b2).mono fun e W' ⟨he, hb⟩ => ?_
  subst he
  exact ⟨_, rfl, law_post laidOut Tryd.underlying4 rfl (by kernel_rfl) rfl hW' rfl hb⟩

theorem headOther_holds : Rows.HeadOtherSaid :=
  OpenClaim.holds_of_wide 9 Tryd.f9 rfl rfl rfl rfl rfl rfl rfl ⟨rfl, rfl, rfl, rfl, rfl⟩ rfl rfl rfl rfl rfl (by kernel_rfl) Tryd.func9 (by kernel_rfl)
    (of_decide_eq_true (by kernel_rfl)) (by unfold Func.isWrapper; rw [if_neg (of_decide_eq_false (by kernel_rfl))]; exact ⟨rfl, rfl⟩)
    (fun os started H enc _ => headOther_lifted os started H enc)
theorem headOther_card : Rows.HeadOtherCardSaid :=
  Claim7.holds_tied_plain_at .later [] [.data] true (true, "d2ba443bc3d8b4c1c5429812ec6190fbe6e8f4d85534e5cb13515c1977a39133") false
    headOther_holds (fun _ h => by cases h) (by kernel_rfl) (fun _ h => by cases h) headOther_row_tie rfl ⟨rfl, rfl⟩ (by kernel_rfl) rfl
    (fun f fn hf hfn => by
      obtain rfl : f = 9 := Option.some.inj ((show Tryd.prog.funcNamed "seedcorn/seedcornlaw43.HeadOther" = some 9 by kernel_rfl).symm.trans hf) |>.symm
      obtain rfl : fn = Tryd.f9 := (Option.some.inj (Tryd.func9.symm.trans hfn)).symm
      exact ⟨by kernel_rfl, fun j t ht => by
        rw [Tryd.params9] at ht
        have hm : t ∈ [24, 5, 9] := by simpa using Array.mem_of_getElem? ht
        have hall : ([24, 5, 9].all fun u => !Tryd.prog.wantsStandIn u) = true := by kernel_rfl
        exact (show Tryd.prog.wantsStandIn t = false by simpa using List.all_eq_true.1 hall t hm)⟩)
    (by kernel_rfl)
end Go.Proofs.YtamllmoakgnjoaaDoor
