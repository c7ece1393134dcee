import Derived.Test.YtddggjmfplohkaaDoorLSo
import Derived.Test.YtddggjmfplohkaaDoorTu
import Derived.Test.YtddggjmfplohkaaDoorRowA
import Derived.Test.YtddggjmfplohkaaDoorTa
import Derived.Test.YtddggjmfplohkaaDoorRows
import Derived.SevenTiedAt
import Derived.Lib.LaidTab
/- SystemSource, walked in whatever world. -/
namespace Go.Proofs.YtddggjmfplohkaaDoor
open Go Go.RowKit
theorem s_source (s : ByteArray) : Spec (Ctx.mk Tryd.prog globU 7 LaidU) 4 [.v (.string s)] [] (.v (.bool true)) [] :=
  s_source0 (fun p hp => by
    have h := up_s (s_same p p hp hp)
    rw [eqB_t rfl] at h
    exact h) s
/-- The law, walked. -/
theorem lsource_walk (s : ByteArray) (w : World) (hP : LaidU w) : Calls Tryd.prog 4 #[.string s] w fun e w' => e = .returned (.bool true) ∧ Grow w w' :=
  walk_ofU (s_source s) hP (args1 (.v _))
end Go.Proofs.YtddggjmfplohkaaDoor

/- What every row of this seat wants of the program: closed facts, and the listed variables' cells out of the row's condition. -/
namespace Go.Proofs.YtddggjmfplohkaaDoor
open Go Go.ChangeShapes Go.WideShapes Go.ChangeAt Go.WideMaps Go.WideElems Go.RowKit
theorem own : ownKnob Tryd.prog.godebug = none := by kernel_rfl
theorem laidOut : laidOutB Tryd.prog = true := by kernel_rfl
/-- A table of texts as a row lists it. -/
def strData {H : Type} (l : List ByteArray) : DataW H := .agg (l.map fun s => .lit (.string s.data.toList))
theorem bytes_inj {a b : ByteArray} (h : a.data.toList = b.data.toList) : a = b := by
  obtain ⟨⟨x⟩⟩ := a
  obtain ⟨⟨y⟩⟩ := b
  have h : x = y := h
  rw [h]
/-- An array of texts that reads as the table holds the table's texts, cell for cell. -/
theorem cells_of_strs {H : Type} {enc : TypeId × Value → H} {P : Program} {w : World} {base : Nat} {sp : Nat → Bool} {held : Bool} {fuel : Nat} {t e : TypeId} {n : Nat} {cs : List Value} {zs : List ByteArray} {p : List MemPlace}
    (ht : P.underlying t = some (.array n e)) (he : P.underlying e = some .string) (hce : P.cellsOf e = 1) (hct : P.cellsOf t = n)
    (h : DataW.trod enc P w base sp held fuel t cs = some (strData zs, p)) : cs = zs.map fun z => Value.string z := by
  cases fuel with
  | zero => simp [DataW.trod] at h
  | succ fuel =>
    simp only [DataW.trod, ht, hce, hct, Nat.mul_one] at h
    split at h
    · rename_i hl
      obtain ⟨xs, hm, hx⟩ := Option.map_eq_some_iff.1 h
      have hxs : xs.map (·.1) = zs.map fun z => (DataW.lit (.string z.data.toList) : DataW H) := by
        have := congrArg Prod.fst hx
        simpa [strData] using this
      have hxl : xs.length = n := by simpa using Lib.mapM_length hm
      have hzl : zs.length = n := by
        have := congrArg List.length hxs
        simp at this
        omega
      apply List.ext_getElem?
      intro i
      by_cases hi : i < n
      · obtain ⟨b, hb, hf⟩ := Lib.mapM_at hm i i (by simp [hi])
        obtain ⟨z, hc, rfl, _⟩ := DataW.trod_string he hf
        have h1 : cs[i]? = some (.string z) := by
          have := congrArg (·[0]?) hc
          simpa [List.getElem?_take, List.getElem?_drop] using this
        have h2 : (xs.map (·.1))[i]? = some (DataW.lit (.string z.data.toList) : DataW H) := by simp [hb]
        rw [hxs] at h2
        simp only [List.getElem?_map, Option.map_eq_some_iff, DataW.lit.injEq, Lit.string.injEq] at h2
        obtain ⟨z', hz', hz2⟩ := h2
        rw [h1, List.getElem?_map, hz', bytes_inj hz2]
        rfl
      · rw [List.getElem?_eq_none (by omega), List.getElem?_eq_none (by simp; omega)]
    · cases h
theorem hasS_of {W : World} {name : String} {g : Nat} {cs : Array Value} {l : List ByteArray} (hg : Tryd.prog.globalNamed name = some g) (hv : W.var? Tryd.prog name = some cs) (hc : cs.toList = l.map fun z => Value.string z) : HasS W g l := fun j hj => by
  refine (World.var?_cell hg hv j).trans ?_
  have : cs[j]? = cs.toList[j]? := by simp
  rw [this, hc]
  simp [List.getD, hj]
def zs64 : List Int := match (Rows.laid_math_bits_deBruijn64tab : DataW Unit) with
  | .agg l => l.map fun x => match x with
    | .lit (.int _ z) => z
    | _ => 0
  | _ => []
end Go.Proofs.YtddggjmfplohkaaDoor

/- What the row of SystemSource wants: the listed variables' cells out of the row's condition. -/
namespace Go.Proofs.YtddggjmfplohkaaDoor
open Go Go.ChangeShapes Go.WideShapes Go.ChangeAt Go.WideMaps Go.WideElems Go.RowKit
def laidV : List (String × DataW Unit) := [("math/bits.deBruijn32tab", Rows.laid_math_bits_deBruijn32tab), ("math/bits.deBruijn64tab", Rows.laid_math_bits_deBruijn64tab), ("internal/strconv.uint64pow10", Rows.laid_internal_strconv_uint64pow10), ("seedcorn/token.words", Rows.laid_seedcorn_token_words), ("seedcorn/token.signs", Rows.laid_seedcorn_token_signs), ("seedcorn/syntax.signs", Rows.laid_seedcorn_syntax_signs)]
theorem door_metV (os : Os) (args : Array Value) : laidMetH Tryd.prog laidV ((World.doorLaid Tryd.prog 400 os).forCall (fun _ _ => 0) ⟨#[], args, []⟩).memory :=
  laidMetH_of_parts3 (fuel := 8) (laidMet_of_run' 8 (by kernel_rfl) (by kernel_rfl)) (by kernel_rfl) (by kernel_rfl)
/-- What the condition gives the walks. -/
theorem of_laidV {W : World} (h : laidMetH Tryd.prog laidV W) : LaidU W := by
  rw [MakeChecks.laidMetH_plain _ _ _ (by kernel_rfl)] at h
  obtain ⟨ps, ⟨_, _, _, _, _, _, _, _, _, _, ⟨g1, t1, cs1, f1, p1, q1, hg1, ht1, hv1, hd1, ⟨g2, t2, cs2, f2, p2, q2, hg2, ht2, hv2, hd2, ⟨g4, t4, cs4, f4, p4, q4, hg4, ht4, hv4, hd4, ⟨g5, t5, cs5, f5, p5, q5, hg5, ht5, hv5, hd5, ⟨g3, t3, cs3, f3, p3, q3, hg3, ht3, hv3, hd3, _, _⟩, _⟩, _⟩, _⟩, _⟩, _⟩, _, _⟩ := h
  have n1 : Tryd.prog.globalNamed "math/bits.deBruijn64tab" = some 6 := by kernel_rfl
  have n2 : Tryd.prog.globalNamed "internal/strconv.uint64pow10" = some 3 := by kernel_rfl
  have n3 : Tryd.prog.globalNamed "seedcorn/syntax.signs" = some 4 := by kernel_rfl
  have n4 : Tryd.prog.globalNamed "seedcorn/token.words" = some 1 := by kernel_rfl
  have n5 : Tryd.prog.globalNamed "seedcorn/token.signs" = some 0 := by kernel_rfl
  have y1 : (Tryd.prog.globals[6]?).map (·.type) = some 137 := by kernel_rfl
  have y2 : (Tryd.prog.globals[3]?).map (·.type) = some 123 := by kernel_rfl
  have y3 : (Tryd.prog.globals[4]?).map (·.type) = some 132 := by kernel_rfl
  have y4 : (Tryd.prog.globals[1]?).map (·.type) = some 119 := by kernel_rfl
  have y5 : (Tryd.prog.globals[0]?).map (·.type) = some 94 := by kernel_rfl
  obtain rfl := Option.some.inj (n1.symm.trans hg1)
  obtain rfl := Option.some.inj (n2.symm.trans hg2)
  obtain rfl := Option.some.inj (n3.symm.trans hg3)
  obtain rfl := Option.some.inj (n4.symm.trans hg4)
  obtain rfl := Option.some.inj (n5.symm.trans hg5)
  obtain rfl := Option.some.inj (y1.symm.trans ht1)
  obtain rfl := Option.some.inj (y2.symm.trans ht2)
  obtain rfl := Option.some.inj (y3.symm.trans ht3)
  obtain rfl := Option.some.inj (y4.symm.trans ht4)
  obtain rfl := Option.some.inj (y5.symm.trans ht5)
  have e1 : (Rows.laid_math_bits_deBruijn64tab : DataW Unit) = Lib.tabData .u8 zs64 := by rfl
  have e2 : (Rows.laid_internal_strconv_uint64pow10 : DataW Unit) = Lib.tabData .u64 Lib.pow10Tab := by rfl
  have e3 : (Rows.laid_seedcorn_syntax_signs : DataW Unit) = strData signsL := by rfl
  have e4 : (Rows.laid_seedcorn_token_words : DataW Unit) = strData wordsL := by rfl
  have e5 : (Rows.laid_seedcorn_token_signs : DataW Unit) = strData tsignsL := by rfl
  rw [e1] at hd1
  rw [e2] at hd2
  rw [e3] at hd3
  rw [e4] at hd4
  rw [e5] at hd5
  have c1 := Lib.cells_of_tab Tryd.underlying137 Tryd.underlying5 (by kernel_rfl) (by kernel_rfl) hd1
  have c2 := Lib.cells_of_tab Tryd.underlying123 Tryd.underlying79 (by kernel_rfl) (by kernel_rfl) hd2
  have c3 := cells_of_strs Tryd.underlying132 Tryd.underlying9 (by kernel_rfl) (by kernel_rfl) hd3
  have c4 := cells_of_strs Tryd.underlying119 Tryd.underlying9 (by kernel_rfl) (by kernel_rfl) hd4
  have c5 := cells_of_strs Tryd.underlying94 Tryd.underlying9 (by kernel_rfl) (by kernel_rfl) hd5
  refine ⟨⟨?_, hasS_of n3 hv3 c3, ?_⟩, hasS_of n4 hv4 c4, hasS_of n5 hv5 c5⟩
  · have h1 := World.var?_cell n1 hv1 0
    have h2 : cs1[0]? = some (.int .u8 0) := by
      have : cs1[0]? = cs1.toList[0]? := by simp
      rw [this, c1]
      rfl
    rw [h2] at h1
    rcases Nat.lt_or_ge 6 W.heap.size with hlt | hge
    · exact hlt
    · unfold World.cell? at h1
      rw [Array.getElem?_eq_none hge] at h1
      cases h1
  · show W.var? Tryd.prog _ = _
    rw [hv2, ← c2]
end Go.Proofs.YtddggjmfplohkaaDoor
