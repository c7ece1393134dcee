/- A signer that uses two of its keys for two links is shown to have said two things just if they are of one recipe, and unlike. The listed variable digest.places is tied to the program's text by the given tie. -/
import Derived.Test.YtjbklilnhemhmaaDoorLL2
import Derived.Test.YtjbklilnhemhmaaDoorSeat
import Derived.Test.YtjbklilnhemhmaaDoorOpn
import Derived.Test.YtjbklilnhemhmaaDoorCards
import Derived.Test.YtjbklilnhemhmaaDoorTie
namespace Go.Proofs.YtjbklilnhemhmaaDoor
open Go Go.ChangeShapes Go.WideShapes Go.ChangeAt Go.WideMaps Go.WideElems Go.RowKit
set_option maxHeartbeats 4000000
set_option maxRecDepth 100000 in
theorem linkShown_lifted (os : Os) (started : os.Started) (H : Type) (enc : TypeId × Value → H) :
    ReturnsInHanded {} Tryd.checked os 15 .any (fun w args => (Rows.linkShownSpec.pre enc Tryd.prog Tryd.f15 [] false w args ∧ laidMetH Tryd.prog laidL w) ∧ sizedMet enc Tryd.prog Tryd.f15 (OpenSpec.ofChange Rows.linkShownSpec) false w args)
      (Rows.linkShownSpec.post enc Tryd.prog Tryd.f15 false true false false) := by
  refine returnsInHanded_of_change_and (C := Tryd.checked) (X := fun w _ => laidMetH Tryd.prog laidL w) (fun _ _ _ hh h => h.of_heap hh) own started (by kernel_rfl) Tryd.func15
    (ChangeSpec.witness_shaped (enc := enc) (C := Tryd.checked) (os := os) (X := fun w _ => laidMetH Tryd.prog laidL w) false (World.doorLaid Tryd.prog 400 os) #[.agg #[.int .u32 0, .int .u32 0, .int .u32 0, .int .u32 0], .agg #[.int .u32 0, .int .u32 0, .int .u32 0, .int .u32 0, .int .u32 0, .int .u32 0, .int .u32 0, .int .u32 0], .agg #[.int .u32 0, .int .u32 0, .int .u32 0, .int .u32 0, .int .u32 0, .int .u32 0, .int .u32 0, .int .u32 0]] 8 rfl (World.shaped_of_RefB (by kernel_rfl) (by kernel_rfl)) (by kernel_rfl) (by kernel_rfl) (by kernel_rfl) (door_met os _)) ?_
  intro W base args ds gs before hval0 hW _ _ hL _
  have hval : ∀ (j : Nat) t v, Tryd.f15.params[j]? = some t → args[j]? = some v → Value.okWide Tryd.prog W .any base t v := hval0
  have hW' := hW
  obtain ⟨p, q, hA0, hV, rfl, hfz, hnd⟩ := hW
  have hA : DataW.TrodAll enc Tryd.prog W 0 (fun _ => true) true Tryd.f15.params.toList args.toList ds p := hA0
  rw [Tryd.params15] at hA hval
  obtain ⟨v0, v1, v2, d0, d1, d2, p0, p1, p2, rfl, rfl, rfl, h0, h1, h2⟩ := trodAll_three hA
  obtain ⟨rfl, rfl⟩ := trodVars_none hV
  obtain ⟨q0, i0, r0⟩ := open_any shD rfl (by kernel_rfl) (hval 0 30 v0 rfl rfl) h0
  obtain ⟨q1, i1, r1⟩ := open_any (.st (.cons shD (.cons shD .nil))) rfl (by kernel_rfl) (hval 1 51 v1 rfl rfl) h1
  obtain ⟨q2, i2, r2⟩ := open_any (.st (.cons shD (.cons shD .nil))) rfl (by kernel_rfl) (hval 2 51 v2 rfl rfl) h2
  refine (linkShown_walk q0 v0 q1 v1 q2 v2 W (of_laid hL) i0 r0 i1 r1 i2 r2).mono fun e W' ⟨he, hb⟩ => ?_
  subst he
  exact ⟨_, rfl, law_post laidOut Tryd.underlying4 rfl (by kernel_rfl) rfl hW' rfl hb⟩

theorem linkShown_holds : Rows.LinkShownSaid :=
  OpenClaim.holds_of_wide 15 Tryd.f15 rfl rfl rfl rfl rfl rfl rfl ⟨rfl, rfl, rfl, rfl, rfl⟩ rfl rfl rfl rfl rfl (by kernel_rfl) Tryd.func15 (by kernel_rfl)
    (of_decide_eq_true (by kernel_rfl)) (by unfold Func.isWrapper; rw [if_neg (of_decide_eq_false (by kernel_rfl))]; exact ⟨rfl, rfl⟩)
    (fun os started H enc _ => linkShown_lifted os started H enc)
theorem linkShown_card : Rows.LinkShownCardSaid :=
  Claim7.holds_tied_plain_at .later [] [.data] true (true, "648f23f45492bb9a5bed273d7bed45e8757b0739c0ceb2d9900bf594259eb8a9") false
    linkShown_holds (fun _ h => by cases h) (by kernel_rfl) (fun _ h => by cases h) linkShown_row_tie rfl ⟨rfl, rfl⟩ (by kernel_rfl) rfl
    (fun f fn hf hfn => by
      obtain rfl : f = 15 := Option.some.inj ((show Tryd.prog.funcNamed "seedcorn/seedcornlaw44.LinkShown" = some 15 by kernel_rfl).symm.trans hf) |>.symm
      obtain rfl : fn = Tryd.f15 := (Option.some.inj (Tryd.func15.symm.trans hfn)).symm
      exact ⟨by kernel_rfl, fun j t ht => by
        rw [Tryd.params15] at ht
        have hm : t ∈ [30, 51, 51] := by simpa using Array.mem_of_getElem? ht
        have hall : ([30, 51, 51].all fun u => !Tryd.prog.wantsStandIn u) = true := by kernel_rfl
        exact (show Tryd.prog.wantsStandIn t = false by simpa using List.all_eq_true.1 hall t hm)⟩)
    (by kernel_rfl)
end Go.Proofs.YtjbklilnhemhmaaDoor
