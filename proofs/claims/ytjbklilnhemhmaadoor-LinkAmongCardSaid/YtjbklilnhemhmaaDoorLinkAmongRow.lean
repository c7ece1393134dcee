/- Of any links that a signer says, one behind the other, just those two show it that are of one recipe, and unlike. The listed variable digest.places is tied to the program's text by the given tie. -/
import Derived.Test.YtjbklilnhemhmaaDoorLL3
import Derived.Test.YtjbklilnhemhmaaDoorSeat
import Derived.Test.YtjbklilnhemhmaaDoorOpn
import Derived.Test.YtjbklilnhemhmaaDoorCards
import Derived.Test.YtjbklilnhemhmaaDoorTie
namespace Go.Proofs.YtjbklilnhemhmaaDoor
open Go Go.ChangeShapes Go.WideShapes Go.ChangeAt Go.WideMaps Go.WideElems Go.RowKit
set_option maxHeartbeats 4000000
set_option maxRecDepth 100000 in
theorem linkAmong_lifted (os : Os) (started : os.Started) (H : Type) (enc : TypeId × Value → H) :
    ReturnsInHanded {} Tryd.checked os 16 .any (fun w args => (Rows.linkAmongSpec.pre enc Tryd.prog Tryd.f16 [] false w args ∧ laidMetH Tryd.prog laidL w) ∧ sizedMet enc Tryd.prog Tryd.f16 (OpenSpec.ofChange Rows.linkAmongSpec) false w args)
      (Rows.linkAmongSpec.post enc Tryd.prog Tryd.f16 false true false false) := by
  refine returnsInHanded_of_change_and (C := Tryd.checked) (X := fun w _ => laidMetH Tryd.prog laidL w) (fun _ _ _ hh h => h.of_heap hh) own started (by kernel_rfl) Tryd.func16
    (ChangeSpec.witness_shaped (enc := enc) (C := Tryd.checked) (os := os) (X := fun w _ => laidMetH Tryd.prog laidL w) false (World.doorLaid Tryd.prog 400 os) #[.agg #[.int .u32 0, .int .u32 0, .int .u32 0, .int .u32 0], .slice none 0 0] 8 rfl (World.shaped_of_RefB (by kernel_rfl) (by kernel_rfl)) (by kernel_rfl) (by kernel_rfl) (by kernel_rfl) (door_met os _)) ?_
  intro W base args ds gs before hval0 hW _ _ hL _
  have hval : ∀ (j : Nat) t v, Tryd.f16.params[j]? = some t → args[j]? = some v → Value.okWide Tryd.prog W .any base t v := hval0
  have hW' := hW
  obtain ⟨p, q, hA0, hV, rfl, hfz, hnd⟩ := hW
  have hA : DataW.TrodAll enc Tryd.prog W 0 (fun _ => true) true Tryd.f16.params.toList args.toList ds p := hA0
  rw [Tryd.params16] at hA hval
  obtain ⟨v0, v1, d0, d1, p0, p1, rfl, rfl, rfl, h0, h1⟩ := trodAll_two hA
  obtain ⟨rfl, rfl⟩ := trodVars_none hV
  obtain ⟨q0, i0, r0⟩ := open_any shD rfl (by kernel_rfl) (hval 0 30 v0 rfl rfl) h0
  obtain ⟨q1, i1, r1⟩ := open_any (.sl (.st (.cons shD (.cons shD .nil)))) rfl (by kernel_rfl) (hval 1 94 v1 rfl rfl) h1
  refine (linkAmong_walk q0 v0 q1 v1 W (of_laid hL) i0 r0 i1 r1).mono fun e W' ⟨he, hb⟩ => ?_
  subst he
  exact ⟨_, rfl, law_post laidOut Tryd.underlying4 rfl (by kernel_rfl) rfl hW' rfl hb⟩

theorem linkAmong_holds : Rows.LinkAmongSaid :=
  OpenClaim.holds_of_wide 16 Tryd.f16 rfl rfl rfl rfl rfl rfl rfl ⟨rfl, rfl, rfl, rfl, rfl⟩ rfl rfl rfl rfl rfl (by kernel_rfl) Tryd.func16 (by kernel_rfl)
    (of_decide_eq_true (by kernel_rfl)) (by unfold Func.isWrapper; rw [if_neg (of_decide_eq_false (by kernel_rfl))]; exact ⟨rfl, rfl⟩)
    (fun os started H enc _ => linkAmong_lifted os started H enc)
theorem linkAmong_card : Rows.LinkAmongCardSaid :=
  Claim7.holds_tied_plain_at .later [] [.data] true (true, "648f23f45492bb9a5bed273d7bed45e8757b0739c0ceb2d9900bf594259eb8a9") false
    linkAmong_holds (fun _ h => by cases h) (by kernel_rfl) (fun _ h => by cases h) linkAmong_row_tie rfl ⟨rfl, rfl⟩ (by kernel_rfl) rfl
    (fun f fn hf hfn => by
      obtain rfl : f = 16 := Option.some.inj ((show Tryd.prog.funcNamed "seedcorn/seedcornlaw44.LinkAmong" = some 16 by kernel_rfl).symm.trans hf) |>.symm
      obtain rfl : fn = Tryd.f16 := (Option.some.inj (Tryd.func16.symm.trans hfn)).symm
      exact ⟨by kernel_rfl, fun j t ht => by
        rw [Tryd.params16] at ht
        have hm : t ∈ [30, 94] := by simpa using Array.mem_of_getElem? ht
        have hall : ([30, 94].all fun u => !Tryd.prog.wantsStandIn u) = true := by kernel_rfl
        exact (show Tryd.prog.wantsStandIn t = false by simpa using List.all_eq_true.1 hall t hm)⟩)
    (by kernel_rfl)
end Go.Proofs.YtjbklilnhemhmaaDoor
