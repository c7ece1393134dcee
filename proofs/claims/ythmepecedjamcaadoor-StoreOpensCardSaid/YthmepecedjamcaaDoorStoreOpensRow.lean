/- The store of any bytes, and how many are left over, and any store's bytes, are the document's. The listed variable digest.places is tied to the program's text by the given tie. -/
import Derived.Test.YthmepecedjamcaaDoorStw
import Derived.Test.YthmepecedjamcaaDoorSeat
import Derived.Test.YthmepecedjamcaaDoorOpnZ
import Derived.Test.YthmepecedjamcaaDoorCards
import Derived.Test.YthmepecedjamcaaDoorTie
namespace Go.Proofs.YthmepecedjamcaaDoor
open Go Go.ChangeShapes Go.WideShapes Go.ChangeAt Go.WideMaps Go.WideElems Go.RowKit
set_option maxHeartbeats 4000000
set_option maxRecDepth 100000 in
theorem storeOpens_lifted (os : Os) (started : os.Started) (H : Type) (enc : TypeId × Value → H) :
    ReturnsInHanded {} Tryd.checked os 13 .any (fun w args => (Rows.storeOpensSpec.pre enc Tryd.prog Tryd.f13 [] false w args ∧ laidMetH Tryd.prog laidL w) ∧ sizedMet enc Tryd.prog Tryd.f13 (OpenSpec.ofChange Rows.storeOpensSpec) false w args)
      (Rows.storeOpensSpec.post enc Tryd.prog Tryd.f13 false true false false) := by
  refine returnsInHanded_of_change_and (C := Tryd.checked) (X := fun w _ => laidMetH Tryd.prog laidL w) (fun _ _ _ hh h => h.of_heap hh) own started (by kernel_rfl) Tryd.func13
    (ChangeSpec.witness_shaped (enc := enc) (C := Tryd.checked) (os := os) (X := fun w _ => laidMetH Tryd.prog laidL w) false (World.doorLaid Tryd.prog 400 os) #[.string ⟨#[]⟩, .agg #[.slice none 0 0]] 8 rfl (World.shaped_of_RefB (by kernel_rfl) (by kernel_rfl)) (by kernel_rfl) (by kernel_rfl) (by kernel_rfl) (door_met os _)) ?_
  intro W base args ds gs before hval0 hW _ hsz hL _
  have hval : ∀ (j : Nat) t v, Tryd.f13.params[j]? = some t → args[j]? = some v → Value.okWide Tryd.prog W .any base t v := hval0
  have hW' := hW
  obtain ⟨p, q, hA0, hV, rfl, hfz, hnd⟩ := hW
  have hA : DataW.TrodAll enc Tryd.prog W 0 (fun _ => true) true Tryd.f13.params.toList args.toList ds p := hA0
  rw [Tryd.params13] at hA hval
  obtain ⟨v0, v1, d0, d1, p0, p1, rfl, rfl, rfl, h0, h1⟩ := trodAll_two hA
  obtain ⟨rfl, rfl⟩ := trodVars_none hV
  obtain ⟨q0, i0, r0⟩ := open_any .str rfl (by kernel_rfl) (hval 0 9 v0 rfl rfl) h0
  obtain ⟨q1, i1, r1⟩ := open_any (.st (.cons (.sl .str) .nil)) rfl (by kernel_rfl) (hval 1 26 v1 rfl rfl) h1
  refine (storeOpens_walk q0 v0 q1 v1 W (of_laid hL) i0 r0 i1 r1).mono fun e W' ⟨he, hb⟩ => ?_
  subst he
  exact ⟨_, rfl, law_post laidOut Tryd.underlying4 rfl (by kernel_rfl) rfl hW' rfl hb⟩

theorem storeOpens_holds : Rows.StoreOpensSaid :=
  OpenClaim.holds_of_wide 13 Tryd.f13 rfl rfl rfl rfl rfl rfl rfl ⟨rfl, rfl, rfl, rfl, rfl⟩ rfl rfl rfl rfl rfl (by kernel_rfl) Tryd.func13 (by kernel_rfl)
    (of_decide_eq_true (by kernel_rfl)) (by unfold Func.isWrapper; rw [if_neg (of_decide_eq_false (by kernel_rfl))]; exact ⟨rfl, rfl⟩)
    (fun os started H enc _ => storeOpens_lifted os started H enc)
theorem storeOpens_card : Rows.StoreOpensCardSaid :=
  Claim7.holds_tied_plain_at .later [] [.data] true (true, "f340510196d291823cb22fd9b0b3fc01ac25c1c71e726776db063f9db19c18a9") false
    storeOpens_holds (fun _ h => by cases h) (by kernel_rfl) (fun _ h => by cases h) storeOpens_row_tie rfl ⟨rfl, rfl⟩ (by kernel_rfl) rfl
    (fun f fn hf hfn => by
      obtain rfl : f = 13 := Option.some.inj ((show Tryd.prog.funcNamed "seedcorn/seedcornlaw42.StoreOpens" = some 13 by kernel_rfl).symm.trans hf) |>.symm
      obtain rfl : fn = Tryd.f13 := (Option.some.inj (Tryd.func13.symm.trans hfn)).symm
      exact ⟨by kernel_rfl, fun j t ht => by
        rw [Tryd.params13] at ht
        have hm : t ∈ [9, 26] := by simpa using Array.mem_of_getElem? ht
        have hall : ([9, 26].all fun u => !Tryd.prog.wantsStandIn u) = true := by kernel_rfl
        exact (show Tryd.prog.wantsStandIn t = false by simpa using List.all_eq_true.1 hall t hm)⟩)
    (by kernel_rfl)
end Go.Proofs.YthmepecedjamcaaDoor
