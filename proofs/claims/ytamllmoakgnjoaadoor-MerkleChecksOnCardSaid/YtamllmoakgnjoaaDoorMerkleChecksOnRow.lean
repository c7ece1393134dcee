/- Whether any proof that a list goes on shows it is what the document says. The listed variable digest.places is tied to the program's text by the given tie. -/
import Derived.Test.YtamllmoakgnjoaaDoorL04
import Derived.Test.YtamllmoakgnjoaaDoorSeat
import Derived.Test.YtamllmoakgnjoaaDoorFld
import Derived.Test.YtamllmoakgnjoaaDoorCards
import Derived.Test.YtamllmoakgnjoaaDoorTie
namespace Go.Proofs.YtamllmoakgnjoaaDoor
open Go Go.ChangeShapes Go.WideShapes Go.ChangeAt Go.WideMaps Go.WideElems Go.RowKit
set_option maxRecDepth 100000 in
theorem merkleChecksOn_lifted (os : Os) (started : os.Started) (H : Type) (enc : TypeId × Value → H) :
    ReturnsInHanded {} Tryd.checked os 17 .any (fun w args => (Rows.merkleChecksOnSpec.pre enc Tryd.prog Tryd.f17 [] false w args ∧ laidMetH Tryd.prog laidL w) ∧ sizedMet enc Tryd.prog Tryd.f17 (OpenSpec.ofChange Rows.merkleChecksOnSpec) false w args)
      (Rows.merkleChecksOnSpec.post enc Tryd.prog Tryd.f17 false true false false) := by
  refine returnsInHanded_of_change_and (C := Tryd.checked) (X := fun w _ => laidMetH Tryd.prog laidL w) (fun _ _ _ hh h => h.of_heap hh) own started (by kernel_rfl) Tryd.func17
    (ChangeSpec.witness_shaped (enc := enc) (C := Tryd.checked) (os := os) (X := fun w _ => laidMetH Tryd.prog laidL w) false (World.doorLaid Tryd.prog 400 os) #[.agg #[.int .u32 0, .int .u32 0, .int .u32 0, .int .u32 0, .int .u32 0, .int .u32 0, .int .u32 0, .int .u32 0, .int .i64 0, .int .i64 0, .slice none 0 0]] 8 rfl (World.shaped_of_RefB (by kernel_rfl) (by kernel_rfl)) (by kernel_rfl) (by kernel_rfl) (by kernel_rfl) (door_met os _)) ?_
  intro W base args ds gs before hval0 hW _ _ hL _
  have hval : ∀ (j : Nat) t v, Tryd.f17.params[j]? = some t → args[j]? = some v → Value.okWide Tryd.prog W .any base t v := hval0
  have hW' := hW
  obtain ⟨p, q, hA0, hV, rfl, hfz, hnd⟩ := hW
  have hA : DataW.TrodAll enc Tryd.prog W 0 (fun _ => true) true Tryd.f17.params.toList args.toList ds p := hA0
  rw [Tryd.params17] at hA hval
  obtain ⟨v0, d0, rfl, rfl, h0⟩ := trodAll_one hA
  obtain ⟨rfl, rfl⟩ := trodVars_none hV
  obtain ⟨cs0, xs0, n0, rfl, hz0, hl0, hf0⟩ := open_st Tryd.underlying73 (hval 0 73 v0 rfl rfl) h0
  obtain ⟨x00, k00⟩ := field_D (o := 0) Tryd.underlying27 Tryd.underlying25 cells_u32 cells_D hl0 (by simp) (hf0 0 _ rfl)
  obtain ⟨x01, k01⟩ := field_D (o := 4) Tryd.underlying27 Tryd.underlying25 cells_u32 cells_D hl0 (by simp) (hf0 1 _ rfl)
  obtain ⟨x02, k02, b02, t02⟩ := field_int (o := 8) Tryd.underlying3 cells_int hl0 (by simp) (hf0 2 _ rfl)
  obtain ⟨x03, k03, b03, t03⟩ := field_int (o := 9) Tryd.underlying3 cells_int hl0 (by simp) (hf0 3 _ rfl)
  obtain ⟨A04, m04, c04, l04, k04, s04⟩ := field_Ds (o := 10) Tryd.underlying38 Tryd.underlying27 Tryd.underlying25 cells_u32 cells_D (by kernel_rfl) hl0 (by simp) (hf0 4 _ rfl)
  refine (merkleChecksOn_walk cs0 x00 x01 x02 x03 A04 m04 c04 l04 W (of_laid hL) (hz0.trans (by kernel_rfl)) k00 k01 k02 b02 t02 k03 b03 t03 k04 s04).mono fun e W' ⟨he, hb⟩ => ?_
  subst he
  exact ⟨_, rfl, law_post laidOut Tryd.underlying4 rfl (by kernel_rfl) rfl hW' rfl hb⟩

theorem merkleChecksOn_holds : Rows.MerkleChecksOnSaid :=
  OpenClaim.holds_of_wide 17 Tryd.f17 rfl rfl rfl rfl rfl rfl rfl ⟨rfl, rfl, rfl, rfl, rfl⟩ rfl rfl rfl rfl rfl (by kernel_rfl) Tryd.func17 (by kernel_rfl)
    (of_decide_eq_true (by kernel_rfl)) (by unfold Func.isWrapper; rw [if_neg (of_decide_eq_false (by kernel_rfl))]; exact ⟨rfl, rfl⟩)
    (fun os started H enc _ => merkleChecksOn_lifted os started H enc)
theorem merkleChecksOn_card : Rows.MerkleChecksOnCardSaid :=
  Claim7.holds_tied_plain_at .later [] [.data] true (true, "d2ba443bc3d8b4c1c5429812ec6190fbe6e8f4d85534e5cb13515c1977a39133") false
    merkleChecksOn_holds (fun _ h => by cases h) (by kernel_rfl) (fun _ h => by cases h) merkleChecksOn_row_tie rfl ⟨rfl, rfl⟩ (by kernel_rfl) rfl
    (fun f fn hf hfn => by
      obtain rfl : f = 17 := Option.some.inj ((show Tryd.prog.funcNamed "seedcorn/seedcornlaw04.MerkleChecksOn" = some 17 by kernel_rfl).symm.trans hf) |>.symm
      obtain rfl : fn = Tryd.f17 := (Option.some.inj (Tryd.func17.symm.trans hfn)).symm
      exact ⟨by kernel_rfl, fun j t ht => by
        rw [Tryd.params17] at ht
        have hm : t ∈ [73] := by simpa using Array.mem_of_getElem? ht
        have hall : ([73].all fun u => !Tryd.prog.wantsStandIn u) = true := by kernel_rfl
        exact (show Tryd.prog.wantsStandIn t = false by simpa using List.all_eq_true.1 hall t hm)⟩)
    (by kernel_rfl)
end Go.Proofs.YtamllmoakgnjoaaDoor
