/- Whether any proof that a head goes on another shows it is what the document says. The listed variable digest.places is tied to the program's text by the given tie. -/
import Derived.Test.YtamllmoakgnjoaaDoorL43b
import Derived.Test.YtamllmoakgnjoaaDoorSeat
import Derived.Test.YtamllmoakgnjoaaDoorOpen
import Derived.Test.YtamllmoakgnjoaaDoorCards
import Derived.Test.YtamllmoakgnjoaaDoorTie
namespace Go.Proofs.YtamllmoakgnjoaaDoor
open Go Go.ChangeShapes Go.WideShapes Go.ChangeAt Go.WideMaps Go.WideElems Go.RowKit
set_option maxRecDepth 100000 in
theorem headOn_lifted (os : Os) (started : os.Started) (H : Type) (enc : TypeId × Value → H) :
    ReturnsInHanded {} Tryd.checked os 15 .any (fun w args => (Rows.headOnSpec.pre enc Tryd.prog Tryd.f15 [] false w args ∧ laidMetH Tryd.prog laidL w) ∧ sizedMet enc Tryd.prog Tryd.f15 (OpenSpec.ofChange Rows.headOnSpec) false w args)
      (Rows.headOnSpec.post enc Tryd.prog Tryd.f15 false true false false) := by
  refine returnsInHanded_of_change_and (C := Tryd.checked) (X := fun w _ => laidMetH Tryd.prog laidL w) (fun _ _ _ hh h => h.of_heap hh) own started (by kernel_rfl) Tryd.func15
    (ChangeSpec.witness_shaped (enc := enc) (C := Tryd.checked) (os := os) (X := fun w _ => laidMetH Tryd.prog laidL w) false (World.doorLaid Tryd.prog 400 os) #[.agg #[.int .i64 0, .int .u32 0, .int .u32 0, .int .u32 0, .int .u32 0, .int .i64 0, .int .u32 0, .int .u32 0, .int .u32 0, .int .u32 0, .slice none 0 0]] 8 rfl (World.shaped_of_RefB (by kernel_rfl) (by kernel_rfl)) (by kernel_rfl) (by kernel_rfl) (by kernel_rfl) (door_met os _)) ?_
  intro W base args ds gs before hval0 hW _ _ hL _
  have hval : ∀ (j : Nat) t v, Tryd.f15.params[j]? = some t → args[j]? = some v → Value.okWide Tryd.prog W .any base t v := hval0
  have hW' := hW
  obtain ⟨p, q, hA0, hV, rfl, hfz, hnd⟩ := hW
  have hA : DataW.TrodAll enc Tryd.prog W 0 (fun _ => true) true Tryd.f15.params.toList args.toList ds p := hA0
  rw [Tryd.params15] at hA hval
  obtain ⟨v0, d0, rfl, rfl, h0⟩ := trodAll_one hA
  obtain ⟨rfl, rfl⟩ := trodVars_none hV
  obtain ⟨cs0, xs0, n0, rfl, hz0, hl0, hf0⟩ := open_st Tryd.underlying69 (hval 0 69 v0 rfl rfl) h0
  obtain ⟨q00, x00, g00, b00, t00, k00⟩ := field_H (o := 0) hl0 (by simp) (hf0 0 _ rfl)
  obtain ⟨q01, x01, g01, b01, t01, k01⟩ := field_H (o := 5) hl0 (by simp) (hf0 1 _ rfl)
  obtain ⟨A02, m02, c02, l02, k02, s02⟩ := field_Ds (o := 10) Tryd.underlying38 Tryd.underlying27 Tryd.underlying25 cells_u32 cells_D (by kernel_rfl) hl0 (by simp) (hf0 2 _ rfl)
  refine (headOn_walk cs0 q00 x00 q01 x01 A02 m02 c02 l02 W (of_laid hL) (hz0.trans (by kernel_rfl)) g00 b00 t00 k00 g01 b01 t01 k01 k02 s02).mono fun e W' ⟨he, hb⟩ => ?_
  subst he
  exact ⟨_, rfl, law_post laidOut Tryd.underlying4 rfl (by kernel_rfl) rfl hW' rfl hb⟩

theorem headOn_holds : Rows.HeadOnSaid :=
  OpenClaim.holds_of_wide 15 Tryd.f15 rfl rfl rfl rfl rfl rfl rfl ⟨rfl, rfl, rfl, rfl, rfl⟩ rfl rfl rfl rfl rfl (by kernel_rfl) Tryd.func15 (by kernel_rfl)
    (of_decide_eq_true (by kernel_rfl)) (by unfold Func.isWrapper; rw [if_neg (of_decide_eq_false (by kernel_rfl))]; exact ⟨rfl, rfl⟩)
    (fun os started H enc _ => headOn_lifted os started H enc)
theorem headOn_card : Rows.HeadOnCardSaid :=
  Claim7.holds_tied_plain_at .later [] [.data] true (true, "d2ba443bc3d8b4c1c5429812ec6190fbe6e8f4d85534e5cb13515c1977a39133") false
    headOn_holds (fun _ h => by cases h) (by kernel_rfl) (fun _ h => by cases h) headOn_row_tie rfl ⟨rfl, rfl⟩ (by kernel_rfl) rfl
    (fun f fn hf hfn => by
      obtain rfl : f = 15 := Option.some.inj ((show Tryd.prog.funcNamed "seedcorn/seedcornlaw43.HeadOn" = some 15 by kernel_rfl).symm.trans hf) |>.symm
      obtain rfl : fn = Tryd.f15 := (Option.some.inj (Tryd.func15.symm.trans hfn)).symm
      exact ⟨by kernel_rfl, fun j t ht => by
        rw [Tryd.params15] at ht
        have hm : t ∈ [69] := by simpa using Array.mem_of_getElem? ht
        have hall : ([69].all fun u => !Tryd.prog.wantsStandIn u) = true := by kernel_rfl
        exact (show Tryd.prog.wantsStandIn t = false by simpa using List.all_eq_true.1 hall t hm)⟩)
    (by kernel_rfl)
end Go.Proofs.YtamllmoakgnjoaaDoor
