/- Another digest, another place, another length or a proof with one more or one less is refused, or two unlike pairs with one digest stand on the way. The listed variable digest.places is tied to the program's text by the given tie. -/
import Derived.Test.YtjbklilnhemhmaaDoorL04c
import Derived.Test.YtjbklilnhemhmaaDoorSeat
import Derived.Test.YtjbklilnhemhmaaDoorRowA
import Derived.Test.YtjbklilnhemhmaaDoorCards
import Derived.Test.YtjbklilnhemhmaaDoorTie
namespace Go.Proofs.YtjbklilnhemhmaaDoor
open Go Go.ChangeShapes Go.WideShapes Go.ChangeAt Go.WideMaps Go.WideElems Go.RowKit
set_option maxRecDepth 100000 in
theorem merkleOther_lifted (os : Os) (started : os.Started) (H : Type) (enc : TypeId × Value → H) :
    ReturnsInHanded {} Tryd.checked os 4 .any (fun w args => (Rows.merkleOtherSpec.pre enc Tryd.prog Tryd.f4 [] false w args ∧ laidMetH Tryd.prog laidL w) ∧ sizedMet enc Tryd.prog Tryd.f4 (OpenSpec.ofChange Rows.merkleOtherSpec) false w args)
      (Rows.merkleOtherSpec.post enc Tryd.prog Tryd.f4 false true false false) := by
  refine returnsInHanded_of_change_and (C := Tryd.checked) (X := fun w _ => laidMetH Tryd.prog laidL w) (fun _ _ _ hh h => h.of_heap hh) own started (by kernel_rfl) Tryd.func4
    (ChangeSpec.witness_shaped (enc := enc) (C := Tryd.checked) (os := os) (X := fun w _ => laidMetH Tryd.prog laidL w) false (World.doorLaid Tryd.prog 400 os) #[.slice none 0 0, .int .i64 0, .agg #[.int .u32 0, .int .u32 0, .int .u32 0, .int .u32 0]] 8 rfl (World.shaped_of_RefB (by kernel_rfl) (by kernel_rfl)) (by kernel_rfl) (by kernel_rfl) (by kernel_rfl) (door_met os _)) ?_
  intro W base args ds gs before hval0 hW _ _ hL _
  have hval : ∀ (j : Nat) t v, Tryd.f4.params[j]? = some t → args[j]? = some v → Value.okWide Tryd.prog W .any base t v := hval0
  have hW' := hW
  obtain ⟨p, q, hA0, hV, rfl, hfz, hnd⟩ := hW
  have hA : DataW.TrodAll enc Tryd.prog W 0 (fun _ => true) true Tryd.f4.params.toList args.toList ds p := hA0
  rw [Tryd.params4] at hA hval
  obtain ⟨v0, v1, v2, d0, d1, d2, p0, p1, p2, rfl, rfl, rfl, h0, h1, h2⟩ := trodAll_three hA
  obtain ⟨rfl, rfl⟩ := trodVars_none hV
  obtain ⟨A0, n0, c0, l0, rfl, s0⟩ := open_Ds Tryd.underlying34 Tryd.underlying30 Tryd.underlying28 cells_u32 cells_D (hval 0 34 v0 rfl rfl) h0
  obtain ⟨x1, rfl, -, -, b1⟩ := open_int Tryd.underlying3 (hval 1 3 v1 rfl rfl) h1
  replace b1 := bounds_i64 b1
  obtain ⟨x2, rfl⟩ := open_D Tryd.underlying30 Tryd.underlying28 cells_u32 cells_D (hval 2 30 v2 rfl rfl) h2
  refine (merkleOther_walk A0 n0 c0 l0 x1 x2 W (of_laid hL) s0 b1.1 b1.2).mono fun e W' ⟨he, hb⟩ => ?_
  subst he
  exact ⟨_, rfl, law_post laidOut Tryd.underlying4 rfl (by kernel_rfl) rfl hW' rfl hb⟩

theorem merkleOther_holds : Rows.MerkleOtherSaid :=
  OpenClaim.holds_of_wide 4 Tryd.f4 rfl rfl rfl rfl rfl rfl rfl ⟨rfl, rfl, rfl, rfl, rfl⟩ rfl rfl rfl rfl rfl (by kernel_rfl) Tryd.func4 (by kernel_rfl)
    (of_decide_eq_true (by kernel_rfl)) (by unfold Func.isWrapper; rw [if_neg (of_decide_eq_false (by kernel_rfl))]; exact ⟨rfl, rfl⟩)
    (fun os started H enc _ => merkleOther_lifted os started H enc)
theorem merkleOther_card : Rows.MerkleOtherCardSaid :=
  Claim7.holds_tied_plain_at .later [] [.data] true (true, "648f23f45492bb9a5bed273d7bed45e8757b0739c0ceb2d9900bf594259eb8a9") false
    merkleOther_holds (fun _ h => by cases h) (by kernel_rfl) (fun _ h => by cases h) merkleOther_row_tie rfl ⟨rfl, rfl⟩ (by kernel_rfl) rfl
    (fun f fn hf hfn => by
      obtain rfl : f = 4 := Option.some.inj ((show Tryd.prog.funcNamed "seedcorn/seedcornlaw04.MerkleOther" = some 4 by kernel_rfl).symm.trans hf) |>.symm
      obtain rfl : fn = Tryd.f4 := (Option.some.inj (Tryd.func4.symm.trans hfn)).symm
      exact ⟨by kernel_rfl, fun j t ht => by
        rw [Tryd.params4] at ht
        have hm : t ∈ [34, 3, 30] := by simpa using Array.mem_of_getElem? ht
        have hall : ([34, 3, 30].all fun u => !Tryd.prog.wantsStandIn u) = true := by kernel_rfl
        exact (show Tryd.prog.wantsStandIn t = false by simpa using List.all_eq_true.1 hall t hm)⟩)
    (by kernel_rfl)
end Go.Proofs.YtjbklilnhemhmaaDoor
