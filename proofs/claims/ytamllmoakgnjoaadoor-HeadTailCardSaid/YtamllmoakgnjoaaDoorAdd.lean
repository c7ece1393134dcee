/- store.Add answers addE: the store that comes of it, the place, and the number of the error. -/
import Derived.Test.YtamllmoakgnjoaaDoorGet
import Derived.Test.YtamllmoakgnjoaaDoorStrLit
import Derived.Test.YtamllmoakgnjoaaDoorAlive43
namespace Go.Proofs.YtamllmoakgnjoaaDoor
open Go.RowKit
/-- What comes of adding an item. -/
def addE (ss : List ByteArray) (a : ByteArray) : List ByteArray × Int × Int :=
  if 0 ≤ findE ss (digE a) then (if ss.getD (findE ss (digE a)).toNat ByteArray.empty = a then (ss, findE ss (digE a), 0) else ([], 0, 8))
  else if 1000 ≤ ss.length then ([], 0, 2) else (ss ++ [a], ss.length, 0)
theorem addE_same {ss : List ByteArray} {a : ByteArray} {j : Nat} (h : findE ss (digE a) = (j : Int)) (he : ss.getD j ByteArray.empty = a) : addE ss a = (ss, (j : Int), 0) := by
  unfold addE; rw [h, if_pos (by omega), Int.toNat_natCast, if_pos he]
theorem addE_other {ss : List ByteArray} {a : ByteArray} {j : Nat} (h : findE ss (digE a) = (j : Int)) (he : ss.getD j ByteArray.empty ≠ a) : addE ss a = ([], 0, 8) := by
  unfold addE; rw [h, if_pos (by omega), Int.toNat_natCast, if_neg he]
theorem addE_full {ss : List ByteArray} {a : ByteArray} (h : findE ss (digE a) = -1) (hl : 1000 ≤ ss.length) : addE ss a = ([], 0, 2) := by
  unfold addE; rw [h, if_neg (by omega), if_pos hl]
theorem addE_new {ss : List ByteArray} {a : ByteArray} (h : findE ss (digE a) = -1) (hl : ss.length < 1000) : addE ss a = (ss ++ [a], (ss.length : Int), 0) := by
  unfold addE; rw [h, if_neg (by omega), if_neg (by omega)]
theorem info_strg : (Tryd.prog.info? 9).map (fun i => (i.zero, i.size, i.bytes)) = some (some (.string ByteArray.empty), 1, 16) := by kernel_rfl
theorem SlS.setRow {w : World} {A A0 : Option Addr} {n c n0 c0 g : Nat} {l : List ByteArray} {e : TypeId} (h : SlS w A n c l) (hB : Blk w g e #[.slice A0 n0 c0]) (cs : Array Value) : SlS (w.setRow g cs) A n c l := by
  obtain ⟨h1, h2, h3, h4⟩ := h
  refine ⟨h1, h2, h3, fun hn => ?_⟩
  obtain ⟨g', o, e', hl, hc⟩ := h4 hn
  have hne : g' ≠ g := by
    intro he
    subst he
    have := hc 0 hn
    rw [hB.cell] at this
    rcases o with _ | o <;> simp at this
  refine ⟨g', o, e', by simpa using hl, fun i hi => ?_⟩
  exact (cell_setRow_other w g cs ⟨g', o + i, Option.none⟩ hne).trans (hc i hi)
theorem build_st1 (A : Option Addr) (n c : Nat) (w : World) : (Instr.build TSt #[(0, .slice A n c)]).run Tryd.prog w = .ok (.agg #[.slice A n c]) w := run_build w TSt _ _ (by kernel_rfl)
structure AdAt (w0 w : World) (A : Option Addr) (n c : Nat) (ss : List ByteArray) : Prop where
  st : StAt w0 w A n c ss
  res : Blk w (w0.heap.size + 1) TSt #[.slice none 0 0]
theorem AdAt.grow {w0 w w' : World} {A : Option Addr} {n c : Nat} {ss : List ByteArray} (h : AdAt w0 w A n c ss) (hg : Grow w w') : AdAt w0 w' A n c ss := ⟨h.st.grow hg, h.res.grow hg⟩
theorem AdAt.new {w : World} {A : Option Addr} {n c : Nat} {ss : List ByteArray} (hs : SlS w A n c ss) (hP : Places w) : AdAt w ((w.alloc (.cells #[.slice A n c] TSt)).alloc (.cells #[.slice none 0 0] TSt)) A n c ss :=
  ⟨(StAt.new hs hP).grow ((Grow.refl _).alloc (Nat.le_refl _) _), Blk.new1 _ _ _ _⟩
theorem st_one (A : Option Addr) (n c : Nat) : (#[Value.slice A n c]).all (·.oneCell') = true := by simp [Value.oneCell']
set_option maxRecDepth 100000 in
set_option maxHeartbeats 4000000 in
theorem add_c (A : Option Addr) (n c : Nat) (ss : List ByteArray) (a : ByteArray) (w : World) (hn : n ≤ 1000000) (ha : a.size ≤ 1000000) (hsm : small ss) (hP : Places w) (hs : SlS w A n c ss) :
    Calls Tryd.prog 32 #[.agg #[.slice A n c], .string a] w fun e w' => ∃ A' n' c', e = .returned (.tuple #[.agg #[.slice A' n' c'], .int .i64 (addE ss a).2.1, .int .i64 (addE ss a).2.2]) ∧ SlS w' A' n' c' (addE ss a).1 ∧ Grow w w' := by
  have H0 := Lib.hid (AdAt.new hs hP)
  have HM := Lib.hid hsm
  have HL := Lib.hid hs.2.2.1
  have Hc := Lib.hid (findE_cases ss (digE a))
  have Esame := Lib.hid (fun j h he => addE_same (ss := ss) (a := a) (j := j) h he)
  have Eoth := Lib.hid (fun j h he => addE_other (ss := ss) (a := a) (j := j) h he)
  have Efull := Lib.hid (fun h hl => addE_full (ss := ss) (a := a) h hl)
  have Enew := Lib.hid (fun h hl => addE_new (ss := ss) (a := a) h hl)
  have m1 := Lib.hid (fun W (hp : Places W) => of_s a W ha hp)
  clear hs hP hsm
  generalize digE a = x at *
  have m2 := Lib.hid (fun W (hW : AdAt w W A n c ss) => find_c x A n c ss W hn HM.out hW.st.pla hW.st.sl)
  generalize findE ss x = fi at *
  go_enter Tryd.func32, Tryd.ntmps32
  go_upto_region 1 with (fail)
  refine wp_gen (fun W => AdAt w W A n c ss) H0.out ?_
  clear H0
  intro w1 h1
  have H1 := Lib.hid h1
  clear h1
  refine wp_region_all (fun W => AdAt w W A n c ss) (by kernel_rfl) (by kernel_rfl) (H1.out.grow (Grow.refl _).drew) ?_
  refine quiet_load_row rfl TSt (.tmp 2) rfl w.heap.size rfl _ #[.slice A n c] (0, 0) _ (fun W hW => hW.st.box) Tryd.underlying24 rfl (st_row A n c) ?_
  simp only [Act.put, List.setIfInBounds_toArray, List.set_cons_zero, List.set_cons_succ]
  (refine quiet_ex rfl ?_; apply Exists.intro; refine ⟨fun W hW => ?_, ?_⟩)
  · go_simp; try with_reducible rfl
  simp only [Act.put, List.setIfInBounds_toArray, List.set_cons_zero, List.set_cons_succ]
  (refine quiet_at rfl ⟨.agg (us x.1), fun W hW => ?_, ?_⟩)
  · go_simp; exact (m1.out _ hW.st.pla).mono (fun e w' h => ⟨h.1, hW.grow h.2⟩)
  simp only [Act.put, List.setIfInBounds_toArray, List.set_cons_zero, List.set_cons_succ]
  (refine quiet_at rfl ⟨.int .i64 fi, fun W hW => ?_, ?_⟩)
  · go_simp; exact (m2.out _ hW).mono (fun e w' h => ⟨h.1, hW.grow h.2⟩)
  simp only [Act.put, List.setIfInBounds_toArray, List.set_cons_zero, List.set_cons_succ]
  (refine quiet_ex rfl ?_; apply Exists.intro; refine ⟨fun W hW => ?_, ?_⟩)
  · go_simp; try with_reducible rfl
  simp only [Act.put, List.setIfInBounds_toArray, List.set_cons_zero, List.set_cons_succ]
  refine wpQuiet_nil ?_
  intro w2 h2
  have hcell := h2.st.box.cell 0
  have hB := h2.st.box
  have hR := h2.res
  have H2 := Lib.hid h2
  clear h2 H1 m1 m2
  rcases Hc.out with hno | ⟨j, hj, hyes⟩
  · subst hno
    by_cases hl : 1000 ≤ n
    · have t1 : decide ((1000 : Int) ≤ (n : Int)) = true := by simp; omega
      have t1' : decide (1000 ≤ n) = true := by simp; omega
      have Hf := Lib.hid (Efull.out rfl (by rw [HL.out]; exact hl))
      go_wp2_with (first
        | (refine wpList_build rfl TSt #[] rfl [] (by simp) (.agg #[.slice none 0 0]) (build_st0 _) ?_)
        | (refine wpList_store_row rfl TSt (.tmp 4) (.tmp 30) rfl (w.heap.size + 1) #[.slice none 0 0] rfl rfl _ _ hR (st_row _ _ _) rfl (st_one _ _ _) ?_))
      refine bodyPost_ret (results_row_tmp2 (p := 4) (q := 5) (r := 6) (ty := TSt) rfl _ _ (w.heap.size + 1) _ #[.slice none 0 0] (0, 0) _ rfl (setRow_heap _ _ _ _ _ _ hR) Tryd.underlying24 rfl (st_row _ _ _)) rfl ⟨none, 0, 0, by rw [Hf.out]; rfl, by rw [Hf.out]; exact SlS.none _, H2.out.st.gro.setRow (by omega) _⟩
    · have t1 : decide ((1000 : Int) ≤ (n : Int)) = false := by simp; omega
      have t1' : decide (1000 ≤ n) = false := by simp; omega
      have Hf := Lib.hid (show addE ss a = (ss ++ [a], (n : Int), 0) by rw [Enew.out rfl (by rw [HL.out]; omega), HL.out])
      have hga : Grow w2 (w2.alloc (.cells #[.string a] 9)) := (Grow.refl _).alloc (Nat.le_refl _) _
      have hs3 : SlS (w2.alloc (.cells #[.string a] 9)) A n n ss := by
        have := (H2.out.st.sl.grow hga).take n n (Nat.le_refl _) (Nat.le_refl _) (by simp only [maxLen]; omega)
        rwa [List.take_of_length_le (by rw [HL.out]; omega)] at this
      have hcc := H2.out.st.sl.1
      go_upto_region 9 with (fail)
      clear t1 t1'
      have b1 : (0 : Int) ≤ n := by omega
      go_wp2_with (first
        | (refine wpList_buildSlice_S rfl 22 9 (.tmp 36) rfl ByteArray.empty 16 Tryd.underlying22 info_strg a rfl ?_)
        | (at_builtin; refine wpList_append_fullS rfl (.tmp 35) (.tmp 37) 22 rfl 9 (.string ByteArray.empty) 16 Tryd.underlying22 info_strg A n ss rfl hs3 w2.heap.size a rfl (Blk.new _ _ _) (by simp only [maxLen]; omega) (by omega) ?_; intro A' c' w3 hs4 hg4; have hR3 := (hR.alloc (.cells #[.string a] 9)).grow hg4)
        | (refine wpList_build rfl TSt #[(0, .tmp 38)] rfl [(0, .slice A' (n + 1) c')] (by simp only [List.map_toArray, List.map_cons, List.map_nil]; rfl) (.agg #[.slice A' (n + 1) c']) (build_st1 A' (n + 1) c' _) ?_)
        | (refine wpList_store_row rfl TSt (.tmp 4) (.tmp 39) rfl (w.heap.size + 1) #[.slice A' (n + 1) c'] rfl rfl _ _ hR3 (st_row _ _ _) rfl (st_one _ _ _) ?_))
      refine bodyPost_ret (results_row_tmp2 (p := 4) (q := 5) (r := 6) (ty := TSt) rfl _ _ (w.heap.size + 1) _ #[.slice A' (n + 1) c'] (0, 0) _ rfl (setRow_heap _ _ _ _ _ _ hR3) Tryd.underlying24 rfl (st_row _ _ _)) rfl ⟨A', n + 1, c', by rw [Hf.out]; rfl, by rw [Hf.out]; exact hs4.setRow hR3 _, (H2.out.st.gro.tr (hga.tr hg4)).setRow (by omega) _⟩
  · rw [HL.out] at hj
    subst hyes
    have t0 : decide ((0 : Int) ≤ (j : Int)) = true := by simp
    have b1 : (0 : Int) ≤ j := by omega
    have b2 : (j : Int) < n := by omega
    obtain ⟨g, o, rfl, -, -⟩ := H2.out.st.sl.2.2.2 (by omega)
    have hcc := Lib.hid H2.out.st.sl.1
    have hc2 := H2.out.st.sl.at j hj
    have Es := Lib.hid (Esame.out j rfl)
    have Eo := Lib.hid (Eoth.out j rfl)
    clear Esame Eoth Efull Enew
    generalize ss.getD j ByteArray.empty = s at *
    by_cases he : s = a
    · have Hf := Lib.hid (Es.out he)
      have t2 : (s.toList == a.toList) = true := by rw [he]; simp
      clear he
      go_wp2_with (first
        | (refine wpList_store_row rfl TSt (.tmp 4) (.tmp 23) rfl (w.heap.size + 1) #[.slice (some ⟨g, o, none⟩) n c] rfl rfl _ _ hR (st_row _ _ _) rfl (st_one _ _ _) ?_))
      refine bodyPost_ret (results_row_tmp2 (p := 4) (q := 5) (r := 6) (ty := TSt) rfl _ _ (w.heap.size + 1) _ #[.slice (some ⟨g, o, none⟩) n c] (0, 0) _ rfl (setRow_heap _ _ _ _ _ _ hR) Tryd.underlying24 rfl (st_row _ _ _)) rfl ⟨some ⟨g, o, none⟩, n, c, by rw [Hf.out]; rfl, by rw [Hf.out]; exact H2.out.st.sl.setRow hR _, H2.out.st.gro.setRow (by omega) _⟩
    · have Hf := Lib.hid (Eo.out he)
      have t2 : (s.toList == a.toList) = false := by simpa [ByteArray.toList_eq, ByteArray.ext_iff] using he
      clear he
      go_wp2_with (first
        | (refine wpList_build rfl TSt #[] rfl [] (by simp) (.agg #[.slice none 0 0]) (build_st0 _) ?_)
        | (refine wpList_store_row rfl TSt (.tmp 4) (.tmp 22) rfl (w.heap.size + 1) #[.slice none 0 0] rfl rfl _ _ hR (st_row _ _ _) rfl (st_one _ _ _) ?_))
      refine bodyPost_ret (results_row_tmp2 (p := 4) (q := 5) (r := 6) (ty := TSt) rfl _ _ (w.heap.size + 1) _ #[.slice none 0 0] (0, 0) _ rfl (setRow_heap _ _ _ _ _ _ hR) Tryd.underlying24 rfl (st_row _ _ _)) rfl ⟨none, 0, 0, by rw [Hf.out]; rfl, by rw [Hf.out]; exact SlS.none _, H2.out.st.gro.setRow (by omega) _⟩
end Go.Proofs.YtamllmoakgnjoaaDoor
