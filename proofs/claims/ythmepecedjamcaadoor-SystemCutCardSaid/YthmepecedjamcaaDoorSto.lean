import Derived.Test.YthmepecedjamcaaDoorB3
import Derived.Test.YthmepecedjamcaaDoorGen
import Derived.Laws.Tables
import Derived.Test.YthmepecedjamcaaDoorStrs
import Derived.Test.YthmepecedjamcaaDoorMore
/- The digests of a store's items, of the program and of the document. -/
namespace Go.Proofs.YthmepecedjamcaaDoor
open Go.RowKit
abbrev TSt := 26
def digE (s : ByteArray) : D := ofE s.data.toList
def digsE (ss : List ByteArray) : List D := ss.map digE
theorem digsE_take_succ (ss : List ByteArray) (j : Nat) (hj : j < ss.length) : digsE (ss.take (j + 1)) = digsE (ss.take j) ++ [digE (ss.getD j ByteArray.empty)] := by
  unfold digsE
  rw [List.take_succ_eq_append_getElem hj, List.map_append]
  simp [List.getD, hj]
theorem digsE_length (ss : List ByteArray) : (digsE ss).length = ss.length := by simp [digsE]
theorem digsE_getD (ss : List ByteArray) (j : Nat) (hj : j < ss.length) : (digsE ss).getD j D.zero = digE (ss.getD j ByteArray.empty) := by simp [digsE, List.getD, hj]
def small (ss : List ByteArray) : Prop := ∀ s ∈ ss, s.size ≤ 1000000
theorem small.at {ss : List ByteArray} (h : small ss) (j : Nat) (hj : j < ss.length) : (ss.getD j ByteArray.empty).size ≤ 1000000 := by
  rw [List.getD_eq_getElem?_getD, List.getElem?_eq_getElem hj]
  exact h _ (List.getElem_mem hj)
theorem of_s (s : ByteArray) (w : World) (hm : s.size ≤ 1000000) (hP : Places w) :
    Calls Tryd.prog 29 #[.string s] w fun e w' => e = .returned (.agg (us (digE s).1)) ∧ Grow w w' := of_c s.data.toList w (by rw [Array.length_toList]; exact hm) hP
theorem rof_s (s : ByteArray) (w : World) (hm : s.size ≤ 1000000) :
    Calls Tryd.prog 51 #[.string s] w fun e w' => e = .returned (.agg (us (digE s).1)) ∧ Grow w w' := rof_c s.data.toList w (by rw [Array.length_toList]; exact hm)
structure StAt (w0 w : World) (A : Option Addr) (n c : Nat) (ss : List ByteArray) : Prop where
  box : Blk w w0.heap.size TSt #[.slice A n c]
  sl : SlS w A n c ss
  gro : Grow w0 w
  pla : Places w
theorem StAt.grow {w0 w w' : World} {A : Option Addr} {n c : Nat} {ss : List ByteArray} (h : StAt w0 w A n c ss) (hg : Grow w w') : StAt w0 w' A n c ss := ⟨h.box.grow hg, h.sl.grow hg, h.gro.tr hg, h.pla.grow hg⟩
theorem StAt.new {w : World} {A : Option Addr} {n c : Nat} {ss : List ByteArray} (hs : SlS w A n c ss) (hP : Places w) : StAt w (w.alloc (.cells #[.slice A n c] TSt)) A n c ss :=
  have hg : Grow w (w.alloc (.cells #[.slice A n c] TSt)) := (Grow.refl _).alloc (Nat.le_refl _) _
  ⟨Blk.new _ _ _, hs.grow hg, hg, hP.grow hg⟩
structure DgAt (w0 w1 w : World) (A : Option Addr) (n c : Nat) (ss : List ByteArray) (v : Value) (l : List D) : Prop where
  st : StAt w0 w A n c ss
  own : w.ownsRow w1.heap.size 39 4 v l.length (dcells l)
  gro : Grow w1 w
set_option maxRecDepth 100000 in
set_option maxHeartbeats 2000000 in
theorem digests_c (A : Option Addr) (n c : Nat) (ss : List ByteArray) (w : World) (hn : n ≤ 1000000) (hsm : small ss) (hP : Places w) (hs : SlS w A n c ss) :
    Calls Tryd.prog 58 #[.agg #[.slice A n c]] w fun e w' => ∃ v, e = .returned v ∧ w'.ownsRow w.heap.size 39 4 v n (dcells (digsE ss)) ∧ Grow w w' := by
  have HS0 := Lib.hid (StAt.new hs hP)
  have hmk := fun W => run_make_const (P := Tryd.prog) 90 39 _ 4 16 Tryd.underlying90 info_D 0 n (by omega) (by omega) (by omega) W
  simp only [Int.cast_ofNat_Int] at hmk
  have HM := Lib.hid hsm
  have HL := Lib.hid hs.2.2.1
  clear hs hP hsm
  go_enter Tryd.func58, Tryd.ntmps58
  go_upto_region 1 with (fail)
  refine wp_gen (fun W => StAt w W A n c ss) HS0.out ?_
  clear HS0
  intro w1 h1
  have hcell := h1.box.cell 0
  have H1 := Lib.hid h1
  clear h1
  go_upto_region 2 with (fail)
  clear hmk hcell
  have hown0 : (w1.alloc (.cells (madeCells #[Value.int .u32 0, Value.int .u32 0, Value.int .u32 0, Value.int .u32 0] (n * 4)) 39)).ownsRow w1.heap.size 39 4 (.slice (some ⟨w1.heap.size, 0, none⟩) 0 n) 0 [] :=
    World.ownsRow_made w1 _ n (Nat.le_refl _) (by simp only [maxLen]; omega) (by simp [madeCells])
  have hga : Grow w1 (w1.alloc (.cells (madeCells #[Value.int .u32 0, Value.int .u32 0, Value.int .u32 0, Value.int .u32 0] (n * 4)) 39)) := (Grow.refl _).alloc (Nat.le_refl _) _
  refine wp_gen (fun W => DgAt w w1 W A n c ss (.slice (some ⟨w1.heap.size, 0, none⟩) 0 n) []) ⟨H1.out.grow hga, hown0, hga⟩ ?_
  clear hown0 hga
  intro w2 h2
  have hcell := h2.st.box.cell 0
  have H2 := Lib.hid h2
  clear h2
  generalize Value.slice (some ⟨w1.heap.size, 0, none⟩) 0 n = v0 at *
  go_wp2_with fail
  clear hcell
  go_loopw [3, 13] (fun v i wr => ∃ j : Nat, j ≤ n ∧ i = .int .i64 j ∧ DgAt w w1 wr A n c ss v (digsE (ss.take j))) (fun _ i _ => n - (intOf i).toNat)
  case atStart => exact ⟨0, by omega, rfl, by rw [List.take_zero]; exact H2.out⟩
  case round =>
    obtain ⟨j, hj, rfl, hN⟩ := hrel
    have HN := Lib.hid hN
    clear hN H2
    by_cases hlt : j < n
    · have hj1 : decide ((j : Int) < (n : Int)) = true := by simp; omega
      have b1 : (0 : Int) ≤ j := by omega
      have b2 : (j : Int) < n := by omega
      obtain ⟨g, o, rfl, -, -⟩ := HN.out.st.sl.2.2.2 (by omega)
      have hcc := Lib.hid HN.out.st.sl.1
      have hcell := HN.out.st.sl.at j hlt
      have Hsucc := Lib.hid (digsE_take_succ ss j (by rw [HL.out]; exact hlt))
      have hsmj := HM.out.at j (by rw [HL.out]; exact hlt)
      have Hdl := Lib.hid (show (digsE (ss.take j)).length = j by rw [digsE_length, List.length_take, HL.out]; omega)
      generalize ss.getD j ByteArray.empty = s at *
      generalize digsE (ss.take j) = l at *
      go_wp2_with fail
      refine (of_s s _ hsmj HN.out.st.pla).mono ?_
      rintro e w3 ⟨rfl, hg3⟩
      clear hcell
      have H3 := Lib.hid (HN.out.st.grow hg3)
      have hown := ownsRow_grow HN.out.own hg3
      rw [Hdl.out] at hown
      have hbase := HN.out.gro.size
      have hgb := Lib.hid (HN.out.gro.tr hg3)
      have hbase2 : w1.heap.size ≤ w3.heap.size := hgb.out.size
      clear hg3
      generalize digE s = y at *
      go_wp2_with (first
        | (refine wpList_buildSlice_D rfl 90 39 (.tmp 19) rfl #[.int .u32 0, .int .u32 0, .int .u32 0, .int .u32 0] 16 rfl Tryd.underlying90 info_D y rfl ?_)
        | (at_builtin; refine wpList_append_new rfl (.tmp 17) (.tmp 20) 90 rfl w1.heap.size 39 (.agg #[.int .u32 0, .int .u32 0, .int .u32 0, .int .u32 0]) 4 16 Tryd.underlying90 info_D rfl (by omega) _ j _ rfl hown 1 1 (y.1.map u) rfl (by simp [y.2]) (us_news y) (by simp only [maxLen]; omega) (by omega) hbase2 ?_; intro v' w4 hown' hbel' _))
      go_roundw
      case rel =>
        refine ⟨j + 1, by omega, by go_num, ?_⟩
        rw [Hsucc.out]
        have hg4 : Grow w1 w4 := hgb.out.trans hbel'
        refine ⟨?_, ?_, hg4⟩
        · exact ⟨H1.out.box.grow hg4, H1.out.sl.grow hg4, H1.out.gro.tr hg4, H1.out.pla.grow hg4⟩
        · rw [List.length_append, Hdl.out, dcells_append, dcells_one]
          exact hown'
      case measure => simp [intOf]; omega
    · have e : j = n := by omega
      subst e
      have hj1 : decide ((j : Int) < (j : Int)) = false := by simp
      rw [List.take_of_length_le (by rw [HL.out]; omega)] at HN
      have hown := HN.out.own
      rw [digsE_length, HL.out] at hown
      have Hown := Lib.hid hown
      clear hown
      go_wp2_with fail
      go_ret
      exact ⟨_, rfl, ownsRow_base Hown.out H1.out.gro.size, H1.out.gro.tr HN.out.gro⟩
end Go.Proofs.YthmepecedjamcaaDoor
/- seedcornref42.Digests: the digests of a store's items. -/
namespace Go.Proofs.YthmepecedjamcaaDoor
open Go.RowKit
set_option maxRecDepth 100000 in
set_option maxHeartbeats 2000000 in
theorem rdigests_c (A : Option Addr) (n c : Nat) (ss : List ByteArray) (w : World) (hn : n ≤ 1000000) (hsm : small ss) (hP : Places w) (hs : SlS w A n c ss) :
    Calls Tryd.prog 66 #[.agg #[.slice A n c]] w fun e w' => ∃ v, e = .returned v ∧ w'.ownsRow w.heap.size 39 4 v n (dcells (digsE ss)) ∧ Grow w w' := by
  have HS0 := Lib.hid (StAt.new hs hP)
  have HM := Lib.hid hsm
  have HL := Lib.hid hs.2.2.1
  clear hs hP hsm
  go_enter Tryd.func66, Tryd.ntmps66
  go_upto_region 1 with (fail)
  refine wp_gen (fun W => StAt w W A n c ss) HS0.out ?_
  clear HS0
  intro w1 h1
  have hcell := h1.box.cell 0
  have H1 := Lib.hid h1
  clear h1
  have H2 := Lib.hid (DgAt.mk H1.out (World.ownsRow_nil w1 w1.heap.size 39 4) (Grow.refl w1) : DgAt w w1 w1 A n c ss (.slice none 0 0) [])
  go_wp2_with fail
  clear hcell
  go_loopw [3, 4] (fun v i wr => ∃ j : Nat, j ≤ n ∧ i = .int .i64 j ∧ DgAt w w1 wr A n c ss v (digsE (ss.take j))) (fun _ i _ => n - (intOf i).toNat)
  case atStart => exact ⟨0, by omega, rfl, by rw [List.take_zero]; exact H2.out⟩
  case round =>
    obtain ⟨j, hj, rfl, hN⟩ := hrel
    have HN := Lib.hid hN
    clear hN H2
    by_cases hlt : j < n
    · have hj1 : decide ((j : Int) < (n : Int)) = true := by simp; omega
      have b1 : (0 : Int) ≤ j := by omega
      have b2 : (j : Int) < n := by omega
      obtain ⟨g, o, rfl, -, -⟩ := HN.out.st.sl.2.2.2 (by omega)
      have hcc := Lib.hid HN.out.st.sl.1
      have hcell := HN.out.st.sl.at j hlt
      have hcell2 := HN.out.st.box.cell 0
      have Hsucc := Lib.hid (digsE_take_succ ss j (by rw [HL.out]; exact hlt))
      have hsmj := HM.out.at j (by rw [HL.out]; exact hlt)
      have Hdl := Lib.hid (show (digsE (ss.take j)).length = j by rw [digsE_length, List.length_take, HL.out]; omega)
      generalize ss.getD j ByteArray.empty = s at *
      generalize digsE (ss.take j) = l at *
      go_wp2_with fail
      refine (rof_s s _ hsmj).mono ?_
      rintro e w3 ⟨rfl, hg3⟩
      clear hcell hcell2
      have H3 := Lib.hid (HN.out.st.grow hg3)
      have hown := ownsRow_grow HN.out.own hg3
      rw [Hdl.out] at hown
      have hbase := HN.out.gro.size
      have hgb := Lib.hid (HN.out.gro.tr hg3)
      have hbase2 : w1.heap.size ≤ w3.heap.size := hgb.out.size
      clear hg3
      generalize digE s = y at *
      go_wp2_with (first
        | (refine wpList_buildSlice_D rfl 90 39 (.tmp 18) rfl #[.int .u32 0, .int .u32 0, .int .u32 0, .int .u32 0] 16 rfl Tryd.underlying90 info_D y rfl ?_)
        | (at_builtin; refine wpList_append_new rfl (.tmp 12) (.tmp 19) 90 rfl w1.heap.size 39 (.agg #[.int .u32 0, .int .u32 0, .int .u32 0, .int .u32 0]) 4 16 Tryd.underlying90 info_D rfl (by omega) _ j _ rfl hown 1 1 (y.1.map u) rfl (by simp [y.2]) (us_news y) (by simp only [maxLen]; omega) (by omega) hbase2 ?_; intro v' w4 hown' hbel' _))
      go_roundw
      case rel =>
        refine ⟨j + 1, by omega, by go_num, ?_⟩
        rw [Hsucc.out]
        have hg4 : Grow w1 w4 := hgb.out.trans hbel'
        refine ⟨?_, ?_, hg4⟩
        · exact ⟨H1.out.box.grow hg4, H1.out.sl.grow hg4, H1.out.gro.tr hg4, H1.out.pla.grow hg4⟩
        · rw [List.length_append, Hdl.out, dcells_append, dcells_one]
          exact hown'
      case measure => simp [intOf]; omega
    · have e : j = n := by omega
      subst e
      have hj1 : decide ((j : Int) < (j : Int)) = false := by simp
      have hcell2 := HN.out.st.box.cell 0
      rw [List.take_of_length_le (by rw [HL.out]; omega)] at HN
      have hown := HN.out.own
      rw [digsE_length, HL.out] at hown
      have Hown := Lib.hid hown
      clear hown
      go_wp2_with fail
      go_ret
      exact ⟨_, rfl, ownsRow_base Hown.out H1.out.gro.size, H1.out.gro.tr HN.out.gro⟩
end Go.Proofs.YthmepecedjamcaaDoor
/- A head as a value: built, its parts, two heads compared. -/
namespace Go.Proofs.YthmepecedjamcaaDoor
open Go.RowKit
abbrev THd := 41
/-- The cells of a head. -/
def hdC (k : Int) (d : D) : Array Value := (Value.int .i64 k :: d.1.map u).toArray
theorem hdC_size (k : Int) (d : D) : (hdC k d).size = 5 := by simp [hdC, d.2]
theorem hdC_one (k : Int) (d : D) : (hdC k d).all (·.oneCell') = true := by
  rw [Array.all_eq_true_iff_forall_mem]
  simp [hdC, Value.oneCell']
theorem hdC_root (k : Int) (d : D) : (hdC k d).extract 1 5 = us d.1 := by
  obtain ⟨l, hl⟩ := d
  match l, hl with
  | [x0, x1, x2, x3], _ => rfl
theorem hdC_get0 (k : Int) (d : D) : (hdC k d)[0]? = some (.int .i64 k) := rfl
theorem hdC_get (k : Int) (d : D) (j : Nat) (hj : j < 4) : (hdC k d)[1 + j]? = some (u (d.1.getD j 0)) := by
  have := D.get d j hj
  rw [Nat.add_comm]
  simpa [hdC] using this
theorem build_head (k : Int) (d : D) (w : World) : (Instr.build THd #[(0, .int .i64 k), (1, .agg (us d.1))]).run Tryd.prog w = .ok (.agg (hdC k d)) w := by
  obtain ⟨l, hl⟩ := d
  match l, hl with
  | [x0, x1, x2, x3], _ => exact run_build w THd _ _ (by kernel_rfl)
theorem eqin_head (k k' : Int) (r r' : D) (w : World) : (Op.equalIn 10000 THd (.agg (hdC k r)) (.agg (hdC k' r'))).run Tryd.prog w = .ok ((k == k') && decide (r = r')) w := by
  have h1 := run_equalIn_us w 9997 39 37 4 Tryd.underlying39 Tryd.underlying37 sizeOf_u32 r.1 r'.1 r.2 r'.2
  have h2 : (r.1 == r'.1) = decide (r = r') := by
    rw [Bool.eq_iff_iff]; simp [Subtype.ext_iff]
  rw [h2] at h1
  rw [run_equalIn_struct w 9999 THd _ _ (by kernel_rfl) (by kernel_rfl)]
  have p0 : ∀ w, (isAgg 3).run Tryd.prog w = .ok false w := fun _ => by kernel_rfl
  have p1 : ∀ w, (isAgg 39).run Tryd.prog w = .ok true w := fun _ => by kernel_rfl
  have p2 : ∀ w, (sizeOf 39).run Tryd.prog w = .ok 4 w := fun _ => by kernel_rfl
  have hi : ∀ (a b : Int) w, (Op.equalIn 9999 3 (.int .i64 a) (.int .i64 b)).run Tryd.prog w = .ok (a == b) w := fun a b w => run_equalIn_int w 9998 3 .i64 .i64 a b Tryd.underlying3
  simp only [Program.fieldsOf, Tryd.underlying41]
  simp [Op.eqFields, part, p0, p1, p2, hi, hdC_get0, hdC_root, h1]
  by_cases hk : k = k' <;> by_cases hr : r = r' <;> simp [hk, hr]
theorem eqin_D9 (r r' : D) (w : World) : (Op.equalIn 9999 39 (.agg (us r.1)) (.agg (us r'.1))).run Tryd.prog w = .ok (decide (r = r')) w := by
  have h1 := run_equalIn_us w 9997 39 37 4 Tryd.underlying39 Tryd.underlying37 sizeOf_u32 r.1 r'.1 r.2 r'.2
  have h2 : (r.1 == r'.1) = decide (r = r') := by
    rw [Bool.eq_iff_iff]; simp [Subtype.ext_iff]
  rw [h2] at h1
  exact h1
section
variable {P : Program} {ops : Array Oper} {C : World → Prop}
/-- A struct or an array laid out of its parts: a quiet operation. -/
theorem quiet_build {o : Oper} {rest : List Oper} {Q : Act → Prop} {a : Act} (hgd : Region.wanted o (yielded ops a.tmps) = true) (ty : TypeId) (ps : Array (Nat × Operand)) (ho : o.op = .build ty ps) (vs : List (Nat × Value))
    (hv : (ps.map fun x => (x.1, a.eval x.2)) = vs.toArray) (v : Value) (hr : ∀ w, (Instr.build ty vs.toArray).run P w = .ok v w)
    (h : wpQuiet P ops C Q rest (a.put o.dst v)) : wpQuiet P ops C Q (o :: rest) a :=
  quiet_val v hgd (fun w _ => by unfold execOp; simp only [ho, hv, Sem.run_bind, hr, Result.andThen_ok, Sem.run_pure]) h
theorem run_build_op {o : Oper} {a : Act} {w : World} (ty : TypeId) (ps : Array (Nat × Operand)) (ho : o.op = .build ty ps) (vs : List (Nat × Value))
    (hv : (ps.map fun x => (x.1, a.eval x.2)) = vs.toArray) (v : Value) (hr : (Instr.build ty vs.toArray).run P w = .ok v w) : (execOp a.eval o).run P w = .ok (.value v) w := by
  unfold execOp; simp only [ho, hv, Sem.run_bind, hr, Result.andThen_ok, Sem.run_pure]
theorem wpList_build {o : Oper} {rest : List Oper} {Q : Exit → Act → World → Prop} {a : Act} {w : World} (hgd : Region.wanted o (yielded ops a.tmps) = true) (ty : TypeId) (ps : Array (Nat × Operand)) (ho : o.op = .build ty ps) (vs : List (Nat × Value))
    (hv : (ps.map fun x => (x.1, a.eval x.2)) = vs.toArray) (v : Value) (hr : (Instr.build ty vs.toArray).run P w = .ok v w)
    (h : wpList P ops Q rest (a.put o.dst v) w) : wpList P ops Q (o :: rest) a w := by
  unfold wpList
  rw [if_pos hgd]
  refine .inl ?_
  unfold Oper.wp
  rw [run_build_op ty ps ho vs hv v hr]
  exact h
end
end Go.Proofs.YthmepecedjamcaaDoor
/- store.Root, store.Head and head.Lost. -/
namespace Go.Proofs.YthmepecedjamcaaDoor
open Go.RowKit
theorem st_row (A : Option Addr) (n c : Nat) : (Tryd.prog.info? TSt).map (·.size) = some (#[Value.slice A n c]).size := by kernel_rfl
theorem hd_row (k : Int) (d : D) : (Tryd.prog.info? THd).map (·.size) = some (hdC k d).size := by rw [hdC_size]; kernel_rfl
set_option maxRecDepth 100000 in
set_option maxHeartbeats 2000000 in
theorem sroot_c (A : Option Addr) (n c : Nat) (ss : List ByteArray) (w : World) (hn : n ≤ 1000000) (hsm : small ss) (hP : Places w) (hs : SlS w A n c ss) :
    Calls Tryd.prog 43 #[.agg #[.slice A n c]] w fun e w' => e = .returned (.agg (us (rootE noneE (digsE ss)).1)) ∧ Grow w w' := by
  have HS0 := Lib.hid (StAt.new hs hP)
  have HM := Lib.hid hsm
  clear hs hP hsm
  go_enter Tryd.func43, Tryd.ntmps43
  go_upto_region 1 with (fail)
  have hg0 : Grow (w.alloc (.cells #[.slice A n c] TSt)) ((w.alloc (.cells #[.slice A n c] TSt)).alloc (.cells (us D.zero.1) 39)) := (Grow.refl _).alloc (Nat.le_refl _) _
  refine wp_gen (fun W => StAt w W A n c ss ∧ Blk W (w.heap.size + 1) 39 (us D.zero.1)) ⟨HS0.out.grow hg0, Blk.new1 _ _ _ _⟩ ?_
  clear HS0 hg0
  intro w1 h1
  have hB := h1.1.box
  have H1 := Lib.hid h1
  clear h1
  go_wp2_with (refine wpList_load_row_g rfl TSt (.tmp 1) rfl w.heap.size rfl _ #[.slice A n c] (0, 0) _ hB Tryd.underlying26 rfl (st_row A n c) ?_)
  refine (digests_c A n c ss _ hn HM.out H1.out.1.pla H1.out.1.sl).mono ?_
  rintro e w2 ⟨v, rfl, ho, hg2⟩
  obtain ⟨A2, c2, rfl, hs2⟩ := SlD.of_own ho
  have H2 := Lib.hid (And.intro (H1.out.1.grow hg2) (And.intro (H1.out.2.grow hg2) hs2))
  clear ho hs2 hg2 hB
  go_wp2_with fail
  refine (root_c n n (Nat.le_refl _) hn A2 c2 (digsE ss) _ H2.out.1.pla H2.out.2.2).mono ?_
  rintro e w3 ⟨rfl, hg3⟩
  have hR := H2.out.2.1.grow hg3
  have H3 := Lib.hid (H2.out.1.grow hg3)
  clear hg3
  have sy := (rootE noneE (digsE ss)).sz
  have oy := (rootE noneE (digsE ss)).one
  generalize hy : rootE noneE (digsE ss) = y at *
  have Hy := Lib.hid hy
  clear hy
  go_wp2_with (refine wpList_store_row rfl 39 (.tmp 2) (.tmp 5) rfl (w.heap.size + 1) (us y.1) rfl rfl _ _ hR (by rw [sy]; kernel_rfl) (by rw [sy]; exact D.zero.sz) oy ?_)
  refine bodyPost_ret (results_cell_row (p := 2) (ty := 39) rfl _ _ (w.heap.size + 1) _ (us y.1) (0, 0) _ rfl (setRow_heap _ _ _ _ _ _ hR) Tryd.underlying39 rfl (by rw [sy]; kernel_rfl)) rfl ⟨by rw [Hy.out], ?_⟩
  exact H3.out.gro.setRow (by omega) _
set_option maxRecDepth 100000 in
set_option maxHeartbeats 2000000 in
theorem shead_c (A : Option Addr) (n c : Nat) (ss : List ByteArray) (w : World) (hn : n ≤ 1000000) (hsm : small ss) (hP : Places w) (hs : SlS w A n c ss) :
    Calls Tryd.prog 21 #[.agg #[.slice A n c]] w fun e w' => e = .returned (.agg (hdC n (rootE noneE (digsE ss)))) ∧ Grow w w' := by
  have HS0 := Lib.hid (StAt.new hs hP)
  have HM := Lib.hid hsm
  clear hs hP hsm
  go_enter Tryd.func21, Tryd.ntmps21
  go_upto_region 1 with (fail)
  have hg0 : Grow (w.alloc (.cells #[.slice A n c] TSt)) ((w.alloc (.cells #[.slice A n c] TSt)).alloc (.cells (hdC 0 D.zero) THd)) := (Grow.refl _).alloc (Nat.le_refl _) _
  refine wp_gen (fun W => StAt w W A n c ss ∧ Blk W (w.heap.size + 1) THd (hdC 0 D.zero)) ⟨HS0.out.grow hg0, Blk.new1 _ _ _ _⟩ ?_
  clear HS0 hg0
  intro w1 h1
  have H1 := Lib.hid h1
  clear h1
  have hr := Lib.hid (fun W (hW : StAt w W A n c ss) => sroot_c A n c ss W hn HM.out hW.pla hW.sl)
  have bh := Lib.hid (fun y W => build_head n y W)
  generalize hy : rootE noneE (digsE ss) = y at *
  have Hy := Lib.hid hy
  clear hy
  refine wp_region_tail 6 (fun W => StAt w W A n c ss ∧ Blk W (w.heap.size + 1) THd (hdC 0 D.zero)) (by kernel_rfl) (by kernel_rfl) ⟨H1.out.1.grow (Grow.refl _).drew, H1.out.2.drew⟩ ?_
  simp only [List.take_succ_cons, List.take_zero]
  (refine quiet_ex rfl ?_; apply Exists.intro; refine ⟨fun W hW => ?_, ?_⟩)
  · go_simp; try with_reducible rfl
  simp only [Act.put, List.setIfInBounds_toArray, List.set_cons_zero, List.set_cons_succ]
  (refine quiet_ex rfl ?_; apply Exists.intro; refine ⟨fun W hW => ?_, ?_⟩)
  · have c := hW.1.box.cell 0; go_simp; try with_reducible rfl
  simp only [Act.put, List.setIfInBounds_toArray, List.set_cons_zero, List.set_cons_succ]
  (refine quiet_ex rfl ?_; apply Exists.intro; refine ⟨fun W hW => ?_, ?_⟩)
  · go_simp; try with_reducible rfl
  simp only [Act.put, List.setIfInBounds_toArray, List.set_cons_zero, List.set_cons_succ]
  refine quiet_load_row rfl TSt (.tmp 1) rfl w.heap.size rfl _ #[.slice A n c] (0, 0) _ (fun W hW => hW.1.box) Tryd.underlying26 rfl (st_row A n c) ?_
  simp only [Act.put, List.setIfInBounds_toArray, List.set_cons_zero, List.set_cons_succ]
  (refine quiet_at rfl ⟨.agg (us y.1), fun W hW => ?_, ?_⟩)
  · go_simp; exact (hr.out _ hW.1).mono (fun e w' h => ⟨h.1, hW.1.grow h.2, hW.2.grow h.2⟩)
  simp only [Act.put, List.setIfInBounds_toArray, List.set_cons_zero, List.set_cons_succ]
  refine quiet_build rfl THd #[(0, .tmp 5), (1, .tmp 7)] rfl [(0, .int .i64 n), (1, .agg (us y.1))] (by simp only [List.map_toArray, List.map_cons, List.map_nil]; rfl) (.agg (hdC n y)) (fun W => bh.out y W) ?_
  simp only [Act.put, List.setIfInBounds_toArray, List.set_cons_zero, List.set_cons_succ]
  refine wpQuiet_nil ?_
  intro w2 h2
  have hR := h2.2
  have H2 := Lib.hid h2.1
  clear h2
  simp only [List.drop_succ_cons, List.drop_zero]
  have sy := hdC_size n y
  have oy := hdC_one n y
  generalize hz : hdC n y = z at *
  have Hz := Lib.hid hz
  clear hz
  go_wp2_with (refine wpList_store_row rfl THd (.tmp 2) (.tmp 8) rfl (w.heap.size + 1) z rfl rfl _ _ hR (by rw [sy]; kernel_rfl) (by rw [sy]; exact hdC_size _ _) oy ?_)
  refine bodyPost_ret (results_cell_row (p := 2) (ty := THd) rfl _ _ (w.heap.size + 1) _ z (0, 0) _ rfl (setRow_heap _ _ _ _ _ _ hR) Tryd.underlying41 rfl (by rw [sy]; kernel_rfl)) rfl ⟨by rw [Hy.out, Hz.out], ?_⟩
  exact H2.out.gro.setRow (by omega) _
/-- What a head tells of a store: the number of the error. -/
def lostE (ss : List ByteArray) (k : Int) (r : D) : Int :=
  if k < 0 then 1 else if (ss.length : Int) < k then 6 else if rootE noneE (digsE (ss.take k.toNat)) = r then 0 else 8
structure LoAt (w0 w : World) (A : Option Addr) (n c : Nat) (ss : List ByteArray) (k : Int) (r : D) : Prop where
  st : StAt w0 w A n c ss
  hd : Blk w (w0.heap.size + 1) THd (hdC k r)
theorem LoAt.grow {w0 w w' : World} {A : Option Addr} {n c : Nat} {ss : List ByteArray} {k : Int} {r : D} (h : LoAt w0 w A n c ss k r) (hg : Grow w w') : LoAt w0 w' A n c ss k r := ⟨h.st.grow hg, h.hd.grow hg⟩
theorem LoAt.new {w : World} {A : Option Addr} {n c : Nat} {ss : List ByteArray} {k : Int} {r : D} (hs : SlS w A n c ss) (hP : Places w) : LoAt w ((w.alloc (.cells #[.slice A n c] TSt)).alloc (.cells (hdC k r) THd)) A n c ss k r :=
  ⟨(StAt.new hs hP).grow ((Grow.refl _).alloc (Nat.le_refl _) _), Blk.new1 _ _ _ _⟩
set_option maxRecDepth 100000 in
set_option maxHeartbeats 4000000 in
theorem lost_c (A : Option Addr) (n c : Nat) (ss : List ByteArray) (k : Int) (r : D) (w : World) (hk1 : -9223372036854775808 ≤ k) (hk2 : k ≤ 9223372036854775807) (hn : n ≤ 1000000) (hsm : small ss) (hP : Places w) (hs : SlS w A n c ss) :
    Calls Tryd.prog 20 #[.agg #[.slice A n c], .agg (hdC k r)] w fun e w' => e = .returned (.int .i64 (lostE ss k r)) ∧ Grow w w' := by
  have HS0 := Lib.hid (LoAt.new hs hP : LoAt w _ A n c ss k r)
  have HM := Lib.hid hsm
  have HL := Lib.hid hs.2.2.1
  clear hs hP hsm
  by_cases hneg : k < 0
  · have hlo : lostE ss k r = 1 := by unfold lostE; rw [if_pos hneg]
    have Hlo := Lib.hid hlo
    have t1 : decide (k < 0) = true := decide_eq_true hneg
    clear hlo hneg
    go_enter Tryd.func20, Tryd.ntmps20
    go_upto_region 1 with (fail)
    refine wp_gen (fun W => LoAt w W A n c ss k r) HS0.out ?_
    clear HS0
    intro w1 h1
    have c1 := (h1.hd.cell 0).trans (hdC_get0 k r)
    have H1 := Lib.hid h1
    clear h1
    go_wp2_with fail
    go_ret
    exact ⟨by rw [Hlo.out]; rfl, H1.out.st.gro⟩
  · obtain ⟨kn, rfl⟩ : ∃ kn : Nat, k = (kn : Int) := ⟨k.toNat, by omega⟩
    have t1 : decide ((kn : Int) < 0) = false := by simp
    by_cases hgt : n < kn
    · have hlo : lostE ss kn r = 6 := by unfold lostE; rw [if_neg (by omega), if_pos (by rw [HL.out]; omega)]
      have Hlo := Lib.hid hlo
      have t2 : decide (n < kn) = true := by simpa using hgt
      have t3 : decide ((n : Int) < (kn : Int)) = true := by simpa using hgt
      clear hlo hneg hgt
      go_enter Tryd.func20, Tryd.ntmps20
      go_upto_region 1 with (fail)
      refine wp_gen (fun W => LoAt w W A n c ss kn r) HS0.out ?_
      clear HS0
      intro w1 h1
      have c1 := (h1.hd.cell 0).trans (hdC_get0 kn r)
      have c2 := h1.st.box.cell 0
      have H1 := Lib.hid h1
      clear h1
      go_wp2_with fail
      go_ret
      exact ⟨by rw [Hlo.out]; rfl, H1.out.st.gro⟩
    · have hlo : lostE ss kn r = if rootE noneE (digsE (ss.take kn)) = r then 0 else 8 := by unfold lostE; rw [if_neg (by omega), if_neg (by rw [HL.out]; omega)]; rfl
      have Hlo := Lib.hid hlo
      have t2 : decide (n < kn) = false := by simpa using hgt
      have t3 : decide ((n : Int) < (kn : Int)) = false := by simpa using hgt
      have hcc := (HS0.out).st.sl.1
      have hkn : kn ≤ n := by omega
      have hkc : kn ≤ c := by omega
      clear hlo hneg hgt
      go_enter Tryd.func20, Tryd.ntmps20
      go_upto_region 1 with (fail)
      refine wp_gen (fun W => LoAt w W A n c ss kn r) HS0.out ?_
      clear HS0
      intro w1 h1
      have c1 := (h1.hd.cell 0).trans (hdC_get0 kn r)
      have c2 := h1.st.box.cell 0
      have H1 := Lib.hid h1
      clear h1
      go_upto_region 6 with (fail)
      obtain ⟨b5, hb5⟩ : ∃ b, b = w1.heap.size := ⟨_, rfl⟩
      have hga : Grow w1 (w1.alloc (.cells #[.slice A kn kn] TSt)) := (Grow.refl _).alloc (Nat.le_refl _) _
      refine wp_gen (fun W => LoAt w W A n c ss kn r ∧ Blk W b5 TSt #[.slice A kn kn]) ⟨H1.out.grow hga, hb5 ▸ Blk.new _ _ _⟩ ?_
      rw [← hb5]
      clear hga hb5 c1 c2
      intro w2 h2
      have H2 := Lib.hid h2
      clear h2
      have hmk : kn ≤ maxLen := by have := H1.out.st.sl.2.1; omega
      have hr := Lib.hid (fun W (hW : LoAt w W A n c ss kn r) => shead_c A kn kn (ss.take kn) W (by omega) (fun s hs => HM.out s (List.mem_of_mem_take hs)) hW.st.pla (hW.st.sl.take kn kn hkn (Nat.le_refl _) hmk))
      have hh := Lib.hid (fun y W => eqin_head kn kn y r W)
      generalize rootE noneE (digsE (ss.take kn)) = y at *
      obtain ⟨bb, hbb⟩ : ∃ bb, bb = decide (y = r) := ⟨_, rfl⟩
      have Hbb := Lib.hid hbb
      have hh2 := hh.out y
      rw [← hbb, show ((kn : Int) == (kn : Int)) = true by simp, Bool.true_and] at hh2
      clear hbb hmk t2 t3 hkn hkc hcc hn
      refine wp_region_all (fun W => LoAt w W A n c ss kn r ∧ Blk W b5 TSt #[.slice A kn kn]) (by kernel_rfl) (by kernel_rfl) ⟨H2.out.1.grow (Grow.refl _).drew, H2.out.2.drew⟩ ?_
      refine quiet_load_row rfl TSt (.tmp 5) rfl b5 rfl _ #[.slice A kn kn] (0, 0) _ (fun W hW => hW.2) Tryd.underlying26 rfl (st_row A kn kn) ?_
      simp only [Act.put, List.setIfInBounds_toArray, List.set_cons_zero, List.set_cons_succ]
      (refine quiet_at rfl ⟨.agg (hdC kn y), fun W hW => ?_, ?_⟩)
      · go_simp; exact (hr.out _ hW.1).mono (fun e w' h => ⟨h.1, hW.1.grow h.2, hW.2.grow h.2⟩)
      simp only [Act.put, List.setIfInBounds_toArray, List.set_cons_zero, List.set_cons_succ]
      refine quiet_load_row rfl THd (.tmp 3) rfl (w.heap.size + 1) rfl _ (hdC kn r) (0, 0) _ (fun W hW => hW.1.hd) Tryd.underlying41 rfl (hd_row kn r) ?_
      simp only [Act.put, List.setIfInBounds_toArray, List.set_cons_zero, List.set_cons_succ]
      (refine quiet_ex rfl ?_; apply Exists.intro; refine ⟨fun W hW => ?_, ?_⟩)
      · have cc := hh2 W; go_simp; try with_reducible rfl
      simp only [Act.put, List.setIfInBounds_toArray, List.set_cons_zero, List.set_cons_succ]
      refine wpQuiet_nil ?_
      intro w3 h3
      have H3 := Lib.hid h3.1.st.gro
      clear h3
      cases bb
      · have hf := of_decide_eq_false Hbb.out.symm
        have Hf := Lib.hid (show lostE ss kn r = 8 by rw [Hlo.out, if_neg hf])
        clear hf hh2
        go_wp2_with fail
        go_ret
        exact ⟨by rw [Hf.out]; rfl, H3.out⟩
      · have hf := of_decide_eq_true Hbb.out.symm
        have Hf := Lib.hid (show lostE ss kn r = 0 by rw [Hlo.out, if_pos hf])
        clear hf hh2
        go_wp2_with fail
        go_ret
        exact ⟨by rw [Hf.out]; rfl, H3.out⟩
end Go.Proofs.YthmepecedjamcaaDoor
/- head.Of and seedcornref43.Of: the digest of a head. -/
namespace Go.Proofs.YthmepecedjamcaaDoor
open Go.RowKit
/-- The words of a head: its size, as 64 bits, and its root. -/
def hdM (k : Int) : Nat := (IntKind.u64.wrap k).toNat
theorem hdM_eq (k : Int) : IntKind.u64.wrap k = (hdM k : Int) := by
  unfold hdM
  have : 0 ≤ IntKind.u64.wrap k := by rw [IntKind.wrap_u64]; omega
  omega
def hdW (k : Int) (r : D) : List UInt32 := [UInt32.ofNat (hdM k), UInt32.ofNat (hdM k / 4294967296)] ++ r.1
theorem D.four (r : D) : ∃ x0 x1 x2 x3, r = ⟨[x0, x1, x2, x3], rfl⟩ := by
  obtain ⟨l, hl⟩ := r
  match l, hl with
  | [x0, x1, x2, x3], _ => exact ⟨x0, x1, x2, x3, rfl⟩
def hdE (k : Int) (r : D) : D := pairE (ofE (104 :: bytesE (hdW k r))) (ofE [104, 101, 97, 100])
structure HOAt (w0 w : World) (k : Int) (r : D) : Prop where
  box : Blk w w0.heap.size THd (hdC k r)
  res : Blk w (w0.heap.size + 1) 39 (us D.zero.1)
  gro : Grow w0 w
  pla : Places w
theorem HOAt.grow {w0 w w' : World} {k : Int} {r : D} (h : HOAt w0 w k r) (hg : Grow w w') : HOAt w0 w' k r := ⟨h.box.grow hg, h.res.grow hg, h.gro.tr hg, h.pla.grow hg⟩
theorem HOAt.new {w : World} (k : Int) (r : D) (hP : Places w) : HOAt w ((w.alloc (.cells (hdC k r) THd)).alloc (.cells (us D.zero.1) 39)) k r :=
  have hg : Grow w ((w.alloc (.cells (hdC k r) THd)).alloc (.cells (us D.zero.1) 39)) := ((Below.refl w.heap.size w).alloc (Nat.le_refl _) _).alloc (by simp) _
  ⟨(Blk.new _ _ _).alloc _, Blk.new1 _ _ _ _, hg, hP.grow hg⟩
theorem own_of_us {w : World} {b : Nat} {l : List UInt32} {n : Nat} (h : Blk w b 37 (us l)) (hl : l.length = n) (hn : n ≤ maxLen) {base : Nat} (hb : base ≤ b) : w.ownsRow base 37 1 (.slice (some ⟨b, 0, none⟩) n n) n (l.map u) := by
  refine ⟨by simp [hl], .inr ⟨b, n, _, rfl, hb, h, Nat.le_refl _, hn, by simp [us, hl], ?_⟩⟩
  simp only [Nat.mul_one]
  exact List.take_of_length_le (by simp [us, hl])
end Go.Proofs.YthmepecedjamcaaDoor
/- seedcornlaw43.alive answers true: the examples of the document. -/
namespace Go.Proofs.YthmepecedjamcaaDoor
open Go.RowKit
def abS : ByteArray := ⟨#[97, 98]⟩
theorem SlS.of_blk {w : World} {b n : Nat} {e : TypeId} {l : List ByteArray} (h : Blk w b e (l.map Value.string).toArray) (hl : l.length = n) (hm : n ≤ maxLen) : SlS w (some ⟨b, 0, none⟩) n n l :=
  ⟨Nat.le_refl _, hm, hl, fun _ => ⟨b, 0, rfl, h.lt, fun i hi => by rw [h.cell, Nat.zero_add]; simp [List.getD, hl, hi]⟩⟩
theorem SlS.none (w : World) : SlS w none 0 0 [] := ⟨Nat.le_refl _, by simp [maxLen], rfl, fun h => by omega⟩
theorem root_ab : rootE noneE (digsE [abS]) = ofE [97, 98] := by
  unfold digsE
  rw [List.map_cons, List.map_nil, rootE_one]; rfl
theorem build_st0 (w : World) : (Instr.build TSt #[]).run Tryd.prog w = .ok (.agg #[.slice none 0 0]) w := run_build w TSt _ _ (by kernel_rfl)
theorem build_hd1 (d : D) (w : World) : (Instr.build THd #[(1, .agg (us d.1))]).run Tryd.prog w = .ok (.agg (hdC 0 d)) w := by
  obtain ⟨l, hl⟩ := d
  match l, hl with
  | [x0, x1, x2, x3], _ => exact run_build w THd _ _ (by kernel_rfl)
structure A43 (w0 w : World) (b g k : Nat) (r : D) : Prop where
  box : Blk w b TSt #[.slice (some ⟨g, 0, none⟩) 1 1]
  sl : SlS w (some ⟨g, 0, none⟩) 1 1 [abS]
  hd : Blk w k THd (hdC 1 r)
  gro : Grow w0 w
  pla : Places w
theorem A43.grow {w0 w w' : World} {b g k : Nat} {r : D} (h : A43 w0 w b g k r) (hg : Grow w w') : A43 w0 w' b g k r := ⟨h.box.grow hg, h.sl.grow hg, h.hd.grow hg, h.gro.tr hg, h.pla.grow hg⟩
theorem small_ab : small [abS] := by
  intro s hs
  have : s = abS := by simpa using hs
  subst this; decide
end Go.Proofs.YthmepecedjamcaaDoor
/- seedcornref43.Lost: has a store lost what a head says? -/
namespace Go.Proofs.YthmepecedjamcaaDoor
open Go.RowKit
end Go.Proofs.YthmepecedjamcaaDoor
/- seedcornref42.Few: few items, of few bytes each? -/
namespace Go.Proofs.YthmepecedjamcaaDoor
open Go.RowKit
def fewE (ss : List ByteArray) (most bytes : Nat) : Bool := decide (ss.length ≤ most) && ss.all fun s => decide (s.size ≤ bytes)
theorem fewE_spec {ss : List ByteArray} {most bytes : Nat} (h : fewE ss most bytes = true) : ss.length ≤ most ∧ ∀ s ∈ ss, s.size ≤ bytes := by
  unfold fewE at h
  simp only [Bool.and_eq_true, decide_eq_true_eq, List.all_eq_true] at h
  exact h
theorem fewE_bad {ss : List ByteArray} {most bytes j : Nat} (hj : j < ss.length) (h : bytes < (ss.getD j ByteArray.empty).size) : fewE ss most bytes = false := by
  cases hf : fewE ss most bytes with
  | false => rfl
  | true =>
    have := (fewE_spec hf).2 (ss.getD j ByteArray.empty) (by rw [List.getD_eq_getElem?_getD, List.getElem?_eq_getElem hj]; exact List.getElem_mem hj)
    omega
theorem fewE_good {ss : List ByteArray} {most bytes : Nat} (h : ∀ j, j < ss.length → (ss.getD j ByteArray.empty).size ≤ bytes) (hl : ss.length ≤ most) : fewE ss most bytes = true := by
  unfold fewE
  simp only [Bool.and_eq_true, decide_eq_true_eq, List.all_eq_true]
  refine ⟨hl, fun s hs => ?_⟩
  obtain ⟨j, hj, rfl⟩ := List.getElem_of_mem hs
  have := h j hj
  rw [List.getD_eq_getElem?_getD, List.getElem?_eq_getElem hj] at this
  exact this
theorem fewE_long {ss : List ByteArray} {most bytes : Nat} (h : most < ss.length) : fewE ss most bytes = false := by
  unfold fewE
  rw [decide_eq_false (by omega)]; rfl
set_option maxRecDepth 100000 in
set_option maxHeartbeats 2000000 in
theorem rfew_c (A : Option Addr) (n c : Nat) (ss : List ByteArray) (most bytes : Nat) (w : World) (hm : most ≤ 1000) (_ : bytes ≤ 1000000) (hsz : ∀ s ∈ ss, s.size ≤ maxLen) (hP : Places w) (hs : SlS w A n c ss) :
    Calls Tryd.prog 30 #[.agg #[.slice A n c], .int .i64 (most : Int), .int .i64 (bytes : Int)] w fun e w' => e = .returned (.bool (fewE ss most bytes)) ∧ Grow w w' := by
  have HS0 := Lib.hid (StAt.new hs hP)
  have HL := Lib.hid hs.2.2.1
  have hnm : n ≤ maxLen := Nat.le_trans hs.1 hs.2.1
  have HZ := Lib.hid (fun j (hj : j < ss.length) => (show (ss.getD j ByteArray.empty).size ≤ maxLen by
    rw [List.getD_eq_getElem?_getD, List.getElem?_eq_getElem hj]; exact hsz _ (List.getElem_mem hj)))
  clear hs hP hsz
  unfold maxLen at hnm
  go_enter Tryd.func30, Tryd.ntmps30
  go_upto_region 1 with (fail)
  refine wp_gen (fun W => StAt w W A n c ss) HS0.out ?_
  clear HS0
  intro w1 h1
  have hcell := h1.box.cell 0
  have H1 := Lib.hid h1
  clear h1
  go_wp2_with fail
  go_loop [7] (fun i => ∃ j : Nat, j ≤ n ∧ j ≤ most + 1 ∧ i = .int .i64 j ∧ ∀ q, q < j → (ss.getD q ByteArray.empty).size ≤ bytes) (fun i => n - (intOf i).toNat)
  case atStart => exact ⟨0, by omega, by omega, rfl, fun q hq => by omega⟩
  case round =>
    obtain ⟨j, hj, hj2, rfl, hE⟩ := hrel
    have HE := Lib.hid hE
    clear hE
    by_cases hlt : j < n
    · have t1 : decide (j < n) = true := by simpa using hlt
      have t1' : decide ((j : Int) < (n : Int)) = true := by simpa using hlt
      by_cases hle : j ≤ most
      · have t2 : decide (j ≤ most) = true := by simpa using hle
        have t2' : decide ((j : Int) ≤ (most : Int)) = true := by simpa using hle
        have b1 : (0 : Int) ≤ j := by omega
        have b2 : (j : Int) < n := by omega
        obtain ⟨g, o, rfl, -, -⟩ := H1.out.sl.2.2.2 (by omega)
        have hcc := Lib.hid H1.out.sl.1
        have hel := H1.out.sl.at j hlt
        have Hbad := Lib.hid (fun h => fewE_bad (ss := ss) (most := most) (bytes := bytes) (j := j) (by rw [HL.out]; exact hlt) h)
        have Hsn := Lib.hid (fun (h : (ss.getD j ByteArray.empty).size ≤ bytes) q (hq : q < j + 1) => (show (ss.getD q ByteArray.empty).size ≤ bytes by
          by_cases e : q = j
          · rw [e]; exact h
          · exact HE.out q (by omega)))
        have hzz := HZ.out j (by rw [HL.out]; exact hlt)
        unfold maxLen at hzz
        generalize ss.getD j ByteArray.empty = s at *
        by_cases hbig : bytes < s.size
        · have t3 : decide (bytes < s.size) = true := by simpa using hbig
          have t3' : decide ((bytes : Int) < (s.size : Int)) = true := by simpa using hbig
          have Hf := Lib.hid (Hbad.out hbig)
          go_wp2
          go_ret
          exact ⟨by rw [Hf.out]; rfl, H1.out.gro⟩
        · have t3 : decide (bytes < s.size) = false := by simpa using hbig
          have t3' : decide ((bytes : Int) < (s.size : Int)) = false := by simpa using hbig
          go_wp2
          go_round
          case rel => exact ⟨j + 1, by omega, by omega, by go_num, Hsn.out (by omega)⟩
          case measure => simp [intOf]; omega
      · have t2 : decide (j ≤ most) = false := by simpa using hle
        have t2' : decide ((j : Int) ≤ (most : Int)) = false := by simpa using hle
        have t4 : decide (n ≤ most) = false := by simp; omega
        have t4' : decide ((n : Int) ≤ (most : Int)) = false := by simp; omega
        have Hf := Lib.hid (fewE_long (ss := ss) (most := most) (bytes := bytes) (by rw [HL.out]; omega))
        go_wp2
        go_ret
        exact ⟨by rw [Hf.out]; rfl, H1.out.gro⟩
    · have e : j = n := by omega
      subst e
      have t1 : decide ((j : Int) < (j : Int)) = false := by simp
      by_cases hle : j ≤ most
      · have t4 : decide (j ≤ most) = true := by simpa using hle
        have t4' : decide ((j : Int) ≤ (most : Int)) = true := by simpa using hle
        have Hf := Lib.hid (fewE_good (ss := ss) (most := most) (bytes := bytes) (fun q hq => HE.out q (by rw [HL.out] at hq; exact hq)) (by rw [HL.out]; exact hle))
        go_wp2
        go_ret
        exact ⟨by rw [Hf.out]; rfl, H1.out.gro⟩
      · have t4 : decide (j ≤ most) = false := by simpa using hle
        have t4' : decide ((j : Int) ≤ (most : Int)) = false := by simpa using hle
        have Hf := Lib.hid (fewE_long (ss := ss) (most := most) (bytes := bytes) (by rw [HL.out]; omega))
        go_wp2
        go_ret
        exact ⟨by rw [Hf.out]; rfl, H1.out.gro⟩
end Go.Proofs.YthmepecedjamcaaDoor
/- seedcornref42.Right: may a store be? -/
namespace Go.Proofs.YthmepecedjamcaaDoor
open Go.RowKit
def rightE (ss : List ByteArray) : Bool := decide (ss.length ≤ 1000) && decide (digsE ss).Nodup
theorem nodup_of {l : List D} (h : ∀ i k, i < l.length → k < i → l.getD i D.zero ≠ l.getD k D.zero) : l.Nodup := by
  unfold List.Nodup
  rw [List.pairwise_iff_getElem]
  intro i j hi hj hij e
  have := h j i hj hij
  apply this
  simp only [List.getD_eq_getElem?_getD, List.getElem?_eq_getElem hi, List.getElem?_eq_getElem hj, Option.getD_some]
  exact e.symm
theorem not_nodup {l : List D} {i k : Nat} (hi : i < l.length) (hk : k < i) (h : l.getD i D.zero = l.getD k D.zero) : ¬ l.Nodup := by
  intro hn
  unfold List.Nodup at hn
  rw [List.pairwise_iff_getElem] at hn
  apply hn k i (by omega) hi hk
  simp only [List.getD_eq_getElem?_getD, List.getElem?_eq_getElem hi, List.getElem?_eq_getElem (show k < l.length by omega), Option.getD_some] at h
  exact h.symm
set_option maxRecDepth 100000 in
set_option maxHeartbeats 4000000 in
theorem rright_c (A : Option Addr) (n c : Nat) (ss : List ByteArray) (w : World) (hn : n ≤ 1000) (hsm : small ss) (hP : Places w) (hs : SlS w A n c ss) :
    Calls Tryd.prog 53 #[.agg #[.slice A n c]] w fun e w' => e = .returned (.bool (rightE ss)) ∧ Grow w w' := by
  have HS0 := Lib.hid (StAt.new hs hP)
  have HL := Lib.hid hs.2.2.1
  have HM := Lib.hid hsm
  have hre : rightE ss = decide (digsE ss).Nodup := by unfold rightE; rw [decide_eq_true (by rw [hs.2.2.1]; exact hn), Bool.true_and]
  have Hre := Lib.hid hre
  clear hs hP hsm hre
  go_enter Tryd.func53, Tryd.ntmps53
  go_upto_region 1 with (fail)
  refine wp_gen (fun W => StAt w W A n c ss) HS0.out ?_
  clear HS0
  intro w1 h1
  have hcell := h1.box.cell 0
  have hB := h1.box
  have H1 := Lib.hid h1
  clear h1
  have t1 : decide (1000 < n) = false := by simp; omega
  have t1' : decide ((1000 : Int) < (n : Int)) = false := by simp; omega
  go_wp2_with (refine wpList_load_row_g rfl TSt (.tmp 1) rfl w.heap.size rfl _ #[.slice A n c] (0, 0) _ hB Tryd.underlying26 rfl (st_row A n c) ?_)
  refine (rdigests_c A n c ss _ (by omega) HM.out H1.out.pla H1.out.sl).mono ?_
  rintro e w2 ⟨v, rfl, ho, hg2⟩
  obtain ⟨A2, c2, rfl, hs2⟩ := SlD.of_own ho
  have HS2 := Lib.hid hs2
  have G2 := Lib.hid (H1.out.gro.tr hg2)
  clear ho hg2 hs2 hcell hB t1 t1'
  have hll := HS2.out.2.2.1
  generalize digsE ss = l at *
  have Hll := Lib.hid hll
  clear hll
  go_wp2_with fail
  go_loopw [4, 5] (fun i _ wr => ∃ j : Nat, j ≤ n ∧ i = .int .i64 j ∧ (∀ p q, p < j → q < p → l.getD p D.zero ≠ l.getD q D.zero) ∧ Grow w2 wr) (fun i _ _ => n - (intOf i).toNat)
  case atStart => exact ⟨0, by omega, rfl, fun p q h => by omega, Grow.refl _⟩
  case round =>
    obtain ⟨j, hj, rfl, hE, hN⟩ := hrel
    have HE := Lib.hid hE
    have HN := Lib.hid hN
    clear hE hN
    by_cases hlt : j < n
    · have t1 : decide (j < n) = true := by simpa using hlt
      have t1' : decide ((j : Int) < (n : Int)) = true := by simpa using hlt
      obtain ⟨g, o, rfl, -, -⟩ := HS2.out.2.2.2 (by omega)
      have hcc := Lib.hid HS2.out.1
      go_wp2_with fail
      clear t1 t1'
      obtain ⟨wo, hwo⟩ : ∃ wo : World, wo = wr := ⟨_, rfl⟩
      subst hwo
      go_loopw [5] (fun i wr => ∃ k : Nat, k ≤ j ∧ i = .int .i64 k ∧ (∀ q, q < k → l.getD j D.zero ≠ l.getD q D.zero) ∧ Grow w2 wr) (fun i _ => j - (intOf i).toNat)
      case atStart => exact ⟨0, by omega, rfl, fun q h => by omega, HN.out⟩
      case round =>
        obtain ⟨k, hk, rfl, hF, hM⟩ := hrel
        have HF := Lib.hid hF
        have HM2 := Lib.hid hM
        clear hF hM
        by_cases hlk : k < j
        · have t2 : decide (k < j) = true := by simpa using hlk
          have t2' : decide ((k : Int) < (j : Int)) = true := by simpa using hlk
          have b1 : (0 : Int) ≤ j := by omega
          have b2 : (j : Int) < n := by omega
          have b3 : (0 : Int) ≤ k := by omega
          have b4 : (k : Int) < n := by omega
          have fa := Lib.hid (fun W (hW : Grow w2 W) => (HS2.out.grow hW).at j hlt)
          have fb := Lib.hid (fun W (hW : Grow w2 W) => (HS2.out.grow hW).at k (by omega))
          have Hsn := Lib.hid (fun (h : l.getD j D.zero ≠ l.getD k D.zero) q (hq : q < k + 1) => (show l.getD j D.zero ≠ l.getD q D.zero by
            by_cases e : q = k
            · rw [e]; exact h
            · exact HF.out q (by omega)))
          have Hno := Lib.hid (fun (h : l.getD j D.zero = l.getD k D.zero) => not_nodup (by rw [Hll.out]; exact hlt) hlk h)
          generalize l.getD j D.zero = x at *
          generalize l.getD k D.zero = y at *
          obtain ⟨bb, hbb⟩ : ∃ bb, bb = decide (x = y) := ⟨_, rfl⟩
          have Hbb := Lib.hid hbb
          clear hbb
          go_upto_region 10 with (fail)
          refine wp_region_all (fun W => Grow w2 W) (by kernel_rfl) (by kernel_rfl) HM2.out.drew ?_
          (refine quiet_ex rfl ?_; apply Exists.intro; refine ⟨fun W hW => ?_, ?_⟩)
          · go_simp; try with_reducible rfl
          simp only [Act.put, List.setIfInBounds_toArray, List.set_cons_zero, List.set_cons_succ]
          (refine quiet_ex rfl ?_; apply Exists.intro; refine ⟨fun W hW => ?_, ?_⟩)
          · go_simp; try with_reducible rfl
          simp only [Act.put, List.setIfInBounds_toArray, List.set_cons_zero, List.set_cons_succ]
          (refine quiet_ex rfl ?_; apply Exists.intro; refine ⟨fun W hW => ?_, ?_⟩)
          · go_simp; try with_reducible rfl
          simp only [Act.put, List.setIfInBounds_toArray, List.set_cons_zero, List.set_cons_succ]
          refine quiet_load_D rfl 39 (.tmp 25) rfl g (o + j * 4) rfl x (fun W hW => fa.out W hW) _ Tryd.underlying39 hi_D ?_
          simp only [Act.put, List.setIfInBounds_toArray, List.set_cons_zero, List.set_cons_succ]
          (refine quiet_ex rfl ?_; apply Exists.intro; refine ⟨fun W hW => ?_, ?_⟩)
          · go_simp; try with_reducible rfl
          simp only [Act.put, List.setIfInBounds_toArray, List.set_cons_zero, List.set_cons_succ]
          (refine quiet_ex rfl ?_; apply Exists.intro; refine ⟨fun W hW => ?_, ?_⟩)
          · go_simp; try with_reducible rfl
          simp only [Act.put, List.setIfInBounds_toArray, List.set_cons_zero, List.set_cons_succ]
          (refine quiet_ex rfl ?_; apply Exists.intro; refine ⟨fun W hW => ?_, ?_⟩)
          · go_simp; try with_reducible rfl
          simp only [Act.put, List.setIfInBounds_toArray, List.set_cons_zero, List.set_cons_succ]
          refine quiet_load_D rfl 39 (.tmp 29) rfl g (o + k * 4) rfl y (fun W hW => fb.out W hW) _ Tryd.underlying39 hi_D ?_
          simp only [Act.put, List.setIfInBounds_toArray, List.set_cons_zero, List.set_cons_succ]
          (refine quiet_ex rfl ?_; apply Exists.intro; refine ⟨fun W hW => ?_, ?_⟩)
          · have c := eqin_D x y W; rw [← Hbb.out] at c; go_simp; try with_reducible rfl
          simp only [Act.put, List.setIfInBounds_toArray, List.set_cons_zero, List.set_cons_succ]
          refine wpQuiet_nil ?_
          intro w5 h5
          have H5 := Lib.hid h5
          clear h5
          cases bb
          · go_wp2_with fail
            go_roundw
            case rel => exact ⟨k + 1, by omega, by go_num, Hsn.out (of_decide_eq_false Hbb.out.symm), H5.out⟩
            case measure => simp [intOf]; omega
          · have Hf := Lib.hid (decide_eq_false (Hno.out (of_decide_eq_true Hbb.out.symm)))
            go_wp2_with fail
            go_ret
            exact ⟨by rw [Hre.out, Hf.out]; rfl, G2.out.tr H5.out⟩
        · have e : k = j := by omega
          subst e
          have t2 : decide ((k : Int) < (k : Int)) = false := by simp
          go_wp2_with fail
          go_roundw
          case rel =>
            refine ⟨k + 1, by omega, by go_num, fun p q h1 h2 => ?_, HM2.out⟩
            by_cases e : p = k
            · rw [e]; exact HF.out q (by omega)
            · exact HE.out p q (by omega) h2
          case measure => simp [intOf]; omega
    · have e : j = n := by omega
      subst e
      have t1 : decide ((j : Int) < (j : Int)) = false := by simp
      have Hf := Lib.hid (decide_eq_true (nodup_of (l := l) (fun i k h1 h2 => HE.out i k (by rw [Hll.out] at h1; exact h1) h2)))
      go_wp2_with fail
      go_ret
      exact ⟨by rw [Hre.out, Hf.out]; rfl, G2.out.tr HN.out⟩
end Go.Proofs.YthmepecedjamcaaDoor
/- The walk of the law HeadLost: it answers true. -/
namespace Go.Proofs.YthmepecedjamcaaDoor
open Go.RowKit
theorem fewE_small {ss : List ByteArray} {most bytes : Nat} (h : fewE ss most bytes = true) (hb : bytes ≤ 1000000) : small ss := fun s hs => Nat.le_trans ((fewE_spec h).2 s hs) hb
end Go.Proofs.YthmepecedjamcaaDoor
/- store.find and seedcornref42.Find: the place of the first item of a digest, or -1. -/
namespace Go.Proofs.YthmepecedjamcaaDoor
open Go.RowKit
def findE (ss : List ByteArray) (d : D) : Int := match ss.findIdx? (fun s => decide (digE s = d)) with | some j => (j : Int) | none => -1
theorem findE_at {ss : List ByteArray} {d : D} {j : Nat} (hj : j < ss.length) (hb : ∀ q, q < j → digE (ss.getD q ByteArray.empty) ≠ d) (h : digE (ss.getD j ByteArray.empty) = d) : findE ss d = (j : Int) := by
  have : ss.findIdx? (fun s => decide (digE s = d)) = some j := by
    rw [List.findIdx?_eq_some_iff_getElem]
    refine ⟨hj, ?_, fun q hq => ?_⟩
    · rw [List.getD_eq_getElem?_getD, List.getElem?_eq_getElem hj] at h
      simpa using h
    · have := hb q hq
      rw [List.getD_eq_getElem?_getD, List.getElem?_eq_getElem (by omega)] at this
      simpa using this
  unfold findE
  rw [this]
theorem findE_no {ss : List ByteArray} {d : D} (hb : ∀ q, q < ss.length → digE (ss.getD q ByteArray.empty) ≠ d) : findE ss d = -1 := by
  have : ss.findIdx? (fun s => decide (digE s = d)) = none := by
    rw [List.findIdx?_eq_none_iff]
    intro s hs
    obtain ⟨q, hq, rfl⟩ := List.getElem_of_mem hs
    have := hb q hq
    rw [List.getD_eq_getElem?_getD, List.getElem?_eq_getElem hq] at this
    simpa using this
  unfold findE
  rw [this]
theorem findE_cases (ss : List ByteArray) (d : D) : findE ss d = -1 ∨ ∃ j : Nat, j < ss.length ∧ findE ss d = (j : Int) := by
  unfold findE
  cases h : ss.findIdx? (fun s => decide (digE s = d)) with
  | none => exact .inl rfl
  | some j =>
    rw [List.findIdx?_eq_some_iff_getElem] at h
    obtain ⟨hj, -⟩ := h
    exact .inr ⟨j, hj, rfl⟩
set_option maxHeartbeats 1000000 in
theorem fd1_c (d : D) (b : Nat) (s : ByteArray) (w : World) (hm : s.size ≤ 1000000) (hP : Places w) (hb : Blk w b 39 (us d.1)) :
    Calls Tryd.prog 65 #[.string s, .pointer (some ⟨b, 0, none⟩)] w fun e w' => e = .returned (.bool (decide (digE s = d))) ∧ Grow w w' := by
  have HP := Lib.hid hP
  have HB := Lib.hid hb
  have sd := d.sz
  have m1 := Lib.hid (fun W (hp : Places W) => of_s s W hm hp)
  generalize digE s = x at *
  obtain ⟨bb, hbb⟩ : ∃ bb, bb = decide (x = d) := ⟨_, rfl⟩
  have Hbb := Lib.hid hbb
  rw [← hbb]
  clear hP hb hbb
  go_enter Tryd.func65, Tryd.ntmps65
  go_upto_region 1 with (fail)
  refine wp_region_all (fun W => Grow w W) (by kernel_rfl) (by kernel_rfl) (Grow.refl _).drew ?_
  (refine quiet_ex rfl ?_; apply Exists.intro; refine ⟨fun W hW => ?_, ?_⟩)
  · go_simp; try with_reducible rfl
  simp only [Act.put, List.setIfInBounds_toArray, List.set_cons_zero, List.set_cons_succ]
  (refine quiet_at rfl ⟨.agg (us x.1), fun W hW => ?_, ?_⟩)
  · go_simp; exact (m1.out _ (HP.out.grow hW)).mono (fun e w' h => ⟨h.1, hW.tr h.2⟩)
  simp only [Act.put, List.setIfInBounds_toArray, List.set_cons_zero, List.set_cons_succ]
  refine quiet_load_row rfl 39 (.tmp 1) rfl (b) rfl _ (us d.1) (0, 0) _ (fun W hW => HB.out.grow hW) Tryd.underlying39 rfl (by rw [sd]; kernel_rfl) ?_
  simp only [Act.put, List.setIfInBounds_toArray, List.set_cons_zero, List.set_cons_succ]
  (refine quiet_ex rfl ?_; apply Exists.intro; refine ⟨fun W hW => ?_, ?_⟩)
  · have c := eqin_D x d W; rw [← Hbb.out] at c; go_simp; try with_reducible rfl
  simp only [Act.put, List.setIfInBounds_toArray, List.set_cons_zero, List.set_cons_succ]
  (refine quiet_ex rfl ?_; apply Exists.intro; refine ⟨fun W hW => ?_, ?_⟩)
  · go_simp; try with_reducible rfl
  simp only [Act.put, List.setIfInBounds_toArray, List.set_cons_zero, List.set_cons_succ]
  refine wpQuiet_nil ?_
  intro w4 h4
  have H4 := Lib.hid h4
  clear h4
  go_wp2
  go_ret
  exact ⟨rfl, H4.out⟩
end Go.Proofs.YthmepecedjamcaaDoor
/- store.find and seedcornref42.Find answer findE. -/
namespace Go.Proofs.YthmepecedjamcaaDoor
open Go.RowKit
structure FiAt (w0 w : World) (A : Option Addr) (n c : Nat) (ss : List ByteArray) (d : D) : Prop where
  st : StAt w0 w A n c ss
  dg : Blk w (w0.heap.size + 1) 39 (us d.1)
theorem FiAt.grow {w0 w w' : World} {A : Option Addr} {n c : Nat} {ss : List ByteArray} {d : D} (h : FiAt w0 w A n c ss d) (hg : Grow w w') : FiAt w0 w' A n c ss d := ⟨h.st.grow hg, h.dg.grow hg⟩
theorem FiAt.new {w : World} {A : Option Addr} {n c : Nat} {ss : List ByteArray} {d : D} (hs : SlS w A n c ss) (hP : Places w) : FiAt w ((w.alloc (.cells #[.slice A n c] TSt)).alloc (.cells (us d.1) 39)) A n c ss d :=
  ⟨(StAt.new hs hP).grow ((Grow.refl _).alloc (Nat.le_refl _) _), Blk.new1 _ _ _ _⟩
set_option maxRecDepth 100000 in
set_option maxHeartbeats 2000000 in
theorem ixf_c (d : D) (b : Nat) (A : Option Addr) (n c : Nat) (ss : List ByteArray) (w : World) (hn : n ≤ 1000000) (hsm : small ss) (hP : Places w) (hb : Blk w b 39 (us d.1)) (hs : SlS w A n c ss) :
    Calls Tryd.prog 64 #[.slice A n c, .func (.func 65) #[] #[.pointer (some ⟨b, 0, none⟩)]] w fun e w' => e = .returned (.int .i64 (findE ss d)) ∧ Grow w w' := by
  have HP := Lib.hid hP
  have HB := Lib.hid hb
  have HS := Lib.hid hs
  have HL := Lib.hid hs.2.2.1
  have HZ := Lib.hid hsm
  clear hP hb hs hsm
  go_enter Tryd.func64, Tryd.ntmps64
  go_wp2_with fail
  go_loopw [8] (fun i wr => ∃ j : Nat, j ≤ n ∧ i = .int .i64 j ∧ (∀ q, q < j → digE (ss.getD q ByteArray.empty) ≠ d) ∧ Grow w wr) (fun i _ => n - (intOf i).toNat)
  case atStart => exact ⟨0, by omega, rfl, fun q h => by omega, Grow.refl _⟩
  case round =>
    obtain ⟨j, hj, rfl, hE, hM⟩ := hrel
    have HE := Lib.hid hE
    have HM := Lib.hid hM
    clear hE hM
    by_cases hlt : j < n
    · have t1 : decide (j < n) = true := by simpa using hlt
      have t1' : decide ((j : Int) < (n : Int)) = true := by simpa using hlt
      have b1 : (0 : Int) ≤ j := by omega
      have b2 : (j : Int) < n := by omega
      obtain ⟨g, o, rfl, -, -⟩ := HS.out.2.2.2 (by omega)
      have hcc := Lib.hid HS.out.1
      have hcell := (HS.out.grow HM.out).at j hlt
      have Hat := Lib.hid (fun h => findE_at (ss := ss) (d := d) (j := j) (by rw [HL.out]; exact hlt) HE.out h)
      have Hsn := Lib.hid (fun (h : digE (ss.getD j ByteArray.empty) ≠ d) q (hq : q < j + 1) => (show digE (ss.getD q ByteArray.empty) ≠ d by
        by_cases e : q = j
        · rw [e]; exact h
        · exact HE.out q (by omega)))
      have hzz := HZ.out.at j (by rw [HL.out]; exact hlt)
      generalize ss.getD j ByteArray.empty = s at *
      have m1 := Lib.hid (fun W hp hb => fd1_c d b s W hzz hp hb)
      go_wp2_with fail
      refine (m1.out _ (HP.out.grow HM.out) (HB.out.grow HM.out)).mono ?_
      rintro e w3 ⟨rfl, hg3⟩
      have G3 := Lib.hid (HM.out.tr hg3)
      clear hg3 hcell m1
      by_cases hx : digE s = d
      · rw [decide_eq_true hx]
        have Hf := Lib.hid (Hat.out hx)
        clear hx
        go_wp2_with fail
        go_ret
        exact ⟨by rw [Hf.out]; rfl, G3.out⟩
      · rw [decide_eq_false hx]
        have Hf := Lib.hid (Hsn.out hx)
        clear hx
        go_wp2_with fail
        go_roundw
        case rel => exact ⟨j + 1, by omega, by go_num, Hf.out, G3.out⟩
        case measure => simp [intOf]; omega
    · have e : j = n := by omega
      subst e
      have t1 : decide ((j : Int) < (j : Int)) = false := by simp
      have Hf := Lib.hid (findE_no (ss := ss) (d := d) (fun q hq => HE.out q (by rw [HL.out] at hq; exact hq)))
      go_wp2_with fail
      go_ret
      exact ⟨by rw [Hf.out]; rfl, HM.out⟩
set_option maxHeartbeats 2000000 in
theorem find_c (d : D) (A : Option Addr) (n c : Nat) (ss : List ByteArray) (w : World) (hn : n ≤ 1000000) (hsm : small ss) (hP : Places w) (hs : SlS w A n c ss) :
    Calls Tryd.prog 52 #[.agg #[.slice A n c], .agg (us d.1)] w fun e w' => e = .returned (.int .i64 (findE ss d)) ∧ Grow w w' := by
  have hmf : ∀ (fn : Fn) (first cap : Array Value) (w : World), (Instr.makeFunc fn first cap).run Tryd.prog w = .ok (.func fn first cap) w := fun _ _ _ _ => rfl
  have H0 := Lib.hid (FiAt.new (d := d) hs hP)
  have HM := Lib.hid hsm
  clear hP hs hsm
  go_enter Tryd.func52, Tryd.ntmps52
  go_upto_region 1 with (fail)
  refine wp_gen (fun W => FiAt w W A n c ss d) H0.out ?_
  clear H0
  intro w1 h1
  have hcell := h1.st.box.cell 0
  have H1 := Lib.hid h1
  clear h1
  go_wp2_with fail
  refine (ixf_c d (w.heap.size + 1) A n c ss _ hn HM.out H1.out.st.pla H1.out.dg H1.out.st.sl).mono ?_
  rintro e w2 ⟨rfl, hg2⟩
  have H2 := Lib.hid (H1.out.st.gro.tr hg2)
  clear hg2
  go_wp2_with fail
  go_ret
  exact ⟨rfl, H2.out⟩
set_option maxRecDepth 100000 in
set_option maxHeartbeats 2000000 in
theorem rfind_c (d : D) (A : Option Addr) (n c : Nat) (ss : List ByteArray) (w : World) (hn : n ≤ 1000000) (hsm : small ss) (hP : Places w) (hs : SlS w A n c ss) :
    Calls Tryd.prog 54 #[.agg #[.slice A n c], .agg (us d.1)] w fun e w' => e = .returned (.int .i64 (findE ss d)) ∧ Grow w w' := by
  have H0 := Lib.hid (FiAt.new (d := d) hs hP)
  have HZ := Lib.hid hsm
  have HL := Lib.hid hs.2.2.1
  clear hP hs hsm
  go_enter Tryd.func54, Tryd.ntmps54
  go_upto_region 1 with (fail)
  refine wp_gen (fun W => FiAt w W A n c ss d) H0.out ?_
  clear H0
  intro w1 h1
  have H1 := Lib.hid h1
  clear h1
  go_wp2_with fail
  go_loopw [5] (fun i wr => ∃ j : Nat, j ≤ n ∧ i = .int .i64 j ∧ (∀ q, q < j → digE (ss.getD q ByteArray.empty) ≠ d) ∧ FiAt w wr A n c ss d) (fun i _ => n - (intOf i).toNat)
  case atStart => exact ⟨0, by omega, rfl, fun q h => by omega, H1.out⟩
  case round =>
    clear H1
    obtain ⟨j, hj, rfl, hE, hM⟩ := hrel
    have HE := Lib.hid hE
    have HM := Lib.hid hM
    have hcell := hM.st.box.cell 0
    clear hE hM
    have sd := d.sz
    by_cases hlt : j < n
    · have t1 : decide (j < n) = true := by simpa using hlt
      have t1' : decide ((j : Int) < (n : Int)) = true := by simpa using hlt
      have b1 : (0 : Int) ≤ j := by omega
      have b2 : (j : Int) < n := by omega
      obtain ⟨g, o, rfl, -, -⟩ := HM.out.st.sl.2.2.2 (by omega)
      have hcc := Lib.hid HM.out.st.sl.1
      have Hat := Lib.hid (fun h => findE_at (ss := ss) (d := d) (j := j) (by rw [HL.out]; exact hlt) HE.out h)
      have Hsn := Lib.hid (fun (h : digE (ss.getD j ByteArray.empty) ≠ d) q (hq : q < j + 1) => (show digE (ss.getD q ByteArray.empty) ≠ d by
        by_cases e : q = j
        · rw [e]; exact h
        · exact HE.out q (by omega)))
      have hzz := HZ.out.at j (by rw [HL.out]; exact hlt)
      have fc := Lib.hid (fun W (hW : FiAt w W (some ⟨g, o, none⟩) n c ss d) => hW.st.sl.at j hlt)
      generalize ss.getD j ByteArray.empty = s at *
      have m1 := Lib.hid (fun W => rof_s s W hzz)
      generalize digE s = x at *
      obtain ⟨bb, hbb⟩ : ∃ bb, bb = decide (x = d) := ⟨_, rfl⟩
      have Hbb := Lib.hid hbb
      clear hbb
      go_upto_region 4 with (fail)
      refine wp_region_all (fun W => FiAt w W (some ⟨g, o, none⟩) n c ss d) (by kernel_rfl) (by kernel_rfl) (HM.out.grow (Grow.refl _).drew) ?_
      clear hcell
      (refine quiet_ex rfl ?_; apply Exists.intro; refine ⟨fun W hW => ?_, ?_⟩)
      · go_simp; try with_reducible rfl
      simp only [Act.put, List.setIfInBounds_toArray, List.set_cons_zero, List.set_cons_succ]
      (refine quiet_ex rfl ?_; apply Exists.intro; refine ⟨fun W hW => ?_, ?_⟩)
      · have c := hW.st.box.cell 0; go_simp; try with_reducible rfl
      simp only [Act.put, List.setIfInBounds_toArray, List.set_cons_zero, List.set_cons_succ]
      (refine quiet_ex rfl ?_; apply Exists.intro; refine ⟨fun W hW => ?_, ?_⟩)
      · go_simp; try with_reducible rfl
      simp only [Act.put, List.setIfInBounds_toArray, List.set_cons_zero, List.set_cons_succ]
      (refine quiet_ex rfl ?_; apply Exists.intro; refine ⟨fun W hW => ?_, ?_⟩)
      · go_simp; try with_reducible rfl
      simp only [Act.put, List.setIfInBounds_toArray, List.set_cons_zero, List.set_cons_succ]
      (refine quiet_ex rfl ?_; apply Exists.intro; refine ⟨fun W hW => ?_, ?_⟩)
      · have c := fc.out W hW; go_simp; try with_reducible rfl
      simp only [Act.put, List.setIfInBounds_toArray, List.set_cons_zero, List.set_cons_succ]
      (refine quiet_at rfl ⟨.agg (us x.1), fun W hW => ?_, ?_⟩)
      · go_simp; exact (m1.out _).mono (fun e w' h => ⟨h.1, hW.grow h.2⟩)
      simp only [Act.put, List.setIfInBounds_toArray, List.set_cons_zero, List.set_cons_succ]
      refine quiet_load_row rfl 39 (.tmp 3) rfl (w.heap.size + 1) rfl _ (us d.1) (0, 0) _ (fun W hW => hW.dg) Tryd.underlying39 rfl (by rw [sd]; kernel_rfl) ?_
      simp only [Act.put, List.setIfInBounds_toArray, List.set_cons_zero, List.set_cons_succ]
      (refine quiet_ex rfl ?_; apply Exists.intro; refine ⟨fun W hW => ?_, ?_⟩)
      · have c := eqin_D x d W; rw [← Hbb.out] at c; go_simp; try with_reducible rfl
      simp only [Act.put, List.setIfInBounds_toArray, List.set_cons_zero, List.set_cons_succ]
      refine wpQuiet_nil ?_
      intro w4 h4
      have H4 := Lib.hid h4
      clear h4
      cases bb
      · have Hf := Lib.hid (Hsn.out (of_decide_eq_false Hbb.out.symm))
        go_wp2_with fail
        go_roundw
        case rel => exact ⟨j + 1, by omega, by go_num, Hf.out, H4.out⟩
        case measure => simp [intOf]; omega
      · have Hf := Lib.hid (Hat.out (of_decide_eq_true Hbb.out.symm))
        go_wp2_with fail
        go_ret
        exact ⟨by rw [Hf.out]; rfl, H4.out.st.gro⟩
    · have e : j = n := by omega
      subst e
      have t1 : decide ((j : Int) < (j : Int)) = false := by simp
      have Hf := Lib.hid (findE_no (ss := ss) (d := d) (fun q hq => HE.out q (by rw [HL.out] at hq; exact hq)))
      go_wp2_with fail
      go_ret
      exact ⟨by rw [Hf.out]; rfl, HM.out.st.gro⟩
end Go.Proofs.YthmepecedjamcaaDoor
/- store.Get and seedcornref42.Get answer getE. -/
namespace Go.Proofs.YthmepecedjamcaaDoor
open Go.RowKit
/-- What is got by a digest: the item, or nothing and the number of the error. -/
def getE (ss : List ByteArray) (d : D) : ByteArray × Int := if findE ss d < 0 then (ByteArray.empty, 6) else (ss.getD (findE ss d).toNat ByteArray.empty, 0)
set_option maxRecDepth 100000 in
set_option maxHeartbeats 2000000 in
theorem get_c (d : D) (A : Option Addr) (n c : Nat) (ss : List ByteArray) (w : World) (hn : n ≤ 1000000) (hsm : small ss) (hP : Places w) (hs : SlS w A n c ss) :
    Calls Tryd.prog 50 #[.agg #[.slice A n c], .agg (us d.1)] w fun e w' => e = .returned (.tuple #[.string (getE ss d).1, .int .i64 (getE ss d).2]) ∧ Grow w w' := by
  have H0 := Lib.hid (FiAt.new (d := d) hs hP)
  have HM := Lib.hid hsm
  have HL := Lib.hid hs.2.2.1
  have sd := d.sz
  clear hP hs hsm
  go_enter Tryd.func50, Tryd.ntmps50
  go_upto_region 1 with (fail)
  refine wp_gen (fun W => FiAt w W A n c ss d) H0.out ?_
  clear H0
  intro w1 h1
  have hB := h1.st.box
  have hcell := hB.cell 0
  have hD := h1.dg
  have H1 := Lib.hid h1
  clear h1
  go_wp2_with (first
    | (refine wpList_load_row_g rfl TSt (.tmp 2) rfl w.heap.size rfl _ #[.slice A n c] (0, 0) _ hB Tryd.underlying26 rfl (st_row A n c) ?_)
    | (refine wpList_load_row_g rfl 39 (.tmp 3) rfl (w.heap.size + 1) rfl _ (us d.1) (0, 0) _ hD Tryd.underlying39 rfl (by rw [sd]; kernel_rfl) ?_))
  refine (find_c d A n c ss _ hn HM.out H1.out.st.pla H1.out.st.sl).mono ?_
  rintro e w2 ⟨rfl, hg2⟩
  have H2 := Lib.hid (H1.out.st.grow hg2)
  clear hg2 hB hD hcell
  rcases findE_cases ss d with hno | ⟨j, hj, hyes⟩
  · have Hg := Lib.hid (show getE ss d = (ByteArray.empty, 6) by unfold getE; rw [hno]; rfl)
    rw [hno]
    clear hno
    go_wp2_with fail
    go_ret2
    exact ⟨by rw [Hg.out]; rfl, H2.out.gro⟩
  · rw [HL.out] at hj
    have Hg := Lib.hid (show getE ss d = (ss.getD j ByteArray.empty, 0) by unfold getE; rw [hyes, if_neg (by omega)]; rfl)
    rw [hyes]
    clear hyes
    have t1 : decide ((j : Int) < 0) = false := by simp
    have b1 : (0 : Int) ≤ j := by omega
    have b2 : (j : Int) < n := by omega
    have hcell := H2.out.box.cell 0
    obtain ⟨g, o, rfl, -, -⟩ := H2.out.sl.2.2.2 (by omega)
    have hcc := Lib.hid H2.out.sl.1
    have hc2 := H2.out.sl.at j hj
    generalize ss.getD j ByteArray.empty = s at *
    go_wp2_with fail
    go_ret2
    exact ⟨by rw [Hg.out]; rfl, H2.out.gro⟩
end Go.Proofs.YthmepecedjamcaaDoor
/- append of one string to a full slice of strings that may be anybody's: a new row; no law of the program is named here. -/
namespace Go.Proofs.YthmepecedjamcaaDoor
open Go.RowKit
section
variable {P : Program}
theorem fullS_new {w : World} {A : Option Addr} {n c : Nat} {ss : List ByteArray} (hs : SlS w A n c ss) (s : ByteArray) (e : TypeId) (Z : Array Value) (cap : Nat) (h1 : n + 1 ≤ cap) (h2 : cap ≤ maxLen) :
    SlS (w.drew.alloc (.cells ((ss.map Value.string).toArray ++ [Value.string s].toArray ++ Z) e)) (some ⟨w.heap.size, 0, none⟩) (n + 1) cap (ss ++ [s]) ∧ Grow w (w.drew.alloc (.cells ((ss.map Value.string).toArray ++ [Value.string s].toArray ++ Z) e)) := by
  refine ⟨⟨h1, h2, by simp [hs.2.2.1], fun _ => ⟨w.heap.size, 0, rfl, by simp, fun i hi => ?_⟩⟩, (Grow.refl w).drew.alloc (Nat.le_refl _) _⟩
  have hc : ((ss.map Value.string).toArray ++ [Value.string s].toArray ++ Z) = ((ss ++ [s]).map Value.string).toArray ++ Z := by simp
  have hB : Blk (w.drew.alloc (.cells ((ss.map Value.string).toArray ++ [Value.string s].toArray ++ Z) e)) w.heap.size e _ := Blk.new w.drew e _
  have hl : i < (ss ++ [s]).length := by simp [hs.2.2.1]; omega
  rw [Nat.zero_add, hB.cell, hc, Array.getElem?_append_left (by simpa using hl), List.getElem?_toArray, List.getElem?_map, List.getD_eq_getElem?_getD, List.getElem?_eq_getElem hl]
  rfl
theorem run_append_fullS (t ty e : TypeId) (z : Value) (bytes : Nat) (ht : P.underlying t = some (.slice e)) (hinfo : (P.info? e).map (fun i => (i.zero, i.size, i.bytes)) = some (some z, 1, bytes))
    {w : World} {A : Option Addr} {n : Nat} {ss : List ByteArray} (hs : SlS w A n n ss) (b : Nat) (s : ByteArray) (hB : Blk w b e #[.string s]) (hm : n + 1 ≤ maxLen) (hby : (n + 1) * bytes ≤ 140737488355328) :
    ∃ A' c' w', (Builtin.append_ #[t, t] ty #[.slice A n n, .slice (some ⟨b, 0, none⟩) 1 1]).run P w = .ok (.slice A' (n + 1) c') w' ∧ SlS w' A' (n + 1) c' (ss ++ [s]) ∧ Grow w w' := by
  obtain ⟨i, hi, hz, hsz, rfl⟩ := info_parts hinfo
  have hm' := hm
  simp only [maxLen] at hm'
  have hnews : ∀ j v, [Value.string s][j]? = some v → w.cell? ((⟨b, 0, none⟩ : Addr).add j) = some v := fun j v hv => by
    rw [Addr.add_mid, hB.cell, Nat.zero_add]
    simpa using hv
  cases A with
  | none =>
    have hn : n = 0 := by
      rcases Nat.eq_zero_or_pos n with h | h
      · exact h
      · obtain ⟨g, o, e, _⟩ := hs.2.2.2 h
        cases e
    subst hn
    have hss : ss = [] := List.eq_nil_of_length_eq_zero hs.2.2.1
    subst hss
    have hr := run_append_nil (P := P) w t ty e i z ht hi hz ⟨b, 0, none⟩ 1 1 [Value.string s] (by rw [hsz]; rfl) hnews (by omega) (by omega) (by simp only [Nat.zero_add] at hby; omega)
    have hf := fullS_new hs s e (Builtin.zeroCells z.cells (grownCap w 1 0 e - 1)) (grownCap w 1 0 e) (grownCap_ge _ _ _ _) (grownCap_le_maxLen _ _ _ _ (by simp [maxLen]))
    simp only [List.map_nil, List.nil_append, Array.empty_append] at hf hr
    exact ⟨_, _, _, hr, hf.1, hf.2⟩
  | some ad =>
    have holds : ∀ j v, (ss.map Value.string)[j]? = some v → w.cell? (ad.add j) = some v := fun j v hv => by
      have hj : j < ss.length := by simpa using (List.getElem?_eq_some_iff.1 hv).1
      obtain ⟨g, o, e', _, hc⟩ := hs.2.2.2 (by rw [← hs.2.2.1]; omega)
      injection e' with e'
      subst e'
      rw [Addr.add_mid, hc j (by rw [← hs.2.2.1]; exact hj), List.getD_eq_getElem?_getD, List.getElem?_eq_getElem hj]
      rw [List.getElem?_map, List.getElem?_eq_getElem hj] at hv
      exact hv
    have hr := run_append_grow (P := P) w t ty e i z ht hi hz ad n n (ss.map Value.string) (by rw [hsz]; simp [hs.2.2.1]) holds ⟨b, 0, none⟩ 1 1 [Value.string s] (by rw [hsz]; rfl) hnews (by omega) (by omega) (growslice_fits (by omega) hby)
    have hf := fullS_new hs s e (Builtin.zeroCells z.cells (grownCap w (n + 1) n e - (n + 1))) (grownCap w (n + 1) n e) (grownCap_ge _ _ _ _) (grownCap_le_maxLen _ _ _ _ hm)
    exact ⟨_, _, _, hr, hf.1, hf.2⟩
theorem wpList_append_fullS {ops : Array Oper} {rest : List Oper} {o : Oper} {a : Act} {Q : Exit → Act → World → Prop} {w : World} (hgd : o.guard = none) (s x : Operand) (t : TypeId)
    (ho : o.op = .call { callee := .builtin .append, args := #[s, x], argTypes := #[t, t] })
    (e : TypeId) (z : Value) (bytes : Nat) (ht : P.underlying t = some (.slice e)) (hinfo : (P.info? e).map (fun i => (i.zero, i.size, i.bytes)) = some (some z, 1, bytes))
    (A : Option Addr) (n : Nat) (ss : List ByteArray) (hv : a.eval s = .slice A n n) (hs : SlS w A n n ss) (b : Nat) (y : ByteArray) (hx : a.eval x = .slice (some ⟨b, 0, none⟩) 1 1) (hB : Blk w b e #[.string y]) (hm : n + 1 ≤ maxLen) (hby : (n + 1) * bytes ≤ 140737488355328)
    (h : ∀ A' c' w', SlS w' A' (n + 1) c' (ss ++ [y]) → Grow w w' → wpList P ops Q rest (a.put o.dst (.slice A' (n + 1) c')) w') : wpList P ops Q (o :: rest) a w := by
  refine wpList_plain hgd fun K hK' => ?_
  obtain ⟨A', c', w', hrun, r1, r2⟩ := run_append_fullS (P := P) t o.type e z bytes ht hinfo hs b y hB hm hby
  unfold Oper.wp
  simp [execOp, ho, resolve, invoke, builtin, hv, hx, hrun, Result.andThen]
  exact hK' _ _ (h A' c' w' r1 r2)
end
end Go.Proofs.YthmepecedjamcaaDoor
/- A slice literal of one string; no law of the program is named here. -/
namespace Go.Proofs.YthmepecedjamcaaDoor
open Go.RowKit
section
variable {P : Program}
theorem run_buildSlice_S (t e : TypeId) (z : ByteArray) (bytes : Nat) (ht : P.underlying t = some (.slice e)) (hinfo : (P.info? e).map (fun i => (i.zero, i.size, i.bytes)) = some (some (.string z), 1, bytes))
    (s : ByteArray) (w : World) : (Instr.buildSlice t 1 #[(0, .string s)]).run P w = .ok (.slice (some ⟨w.heap.size, 0, none⟩) 1 1) (w.alloc (.cells #[.string s] e)) := by
  obtain ⟨i, hi, hzz, hsz, rfl⟩ := info_parts hinfo
  simp [Instr.buildSlice, run_underlying ht, sizeOf, typeInfo, hi, hsz, zeroValue, hzz, Value.cells, Instr.fill, go_sem]
theorem wpList_buildSlice_S {ops : Array Oper} {rest : List Oper} {o : Oper} {a : Act} {Q : Exit → Act → World → Prop} {w : World} (hgd : o.guard = none) (t e : TypeId) (x : Operand) (ho : o.op = .buildSlice t 1 #[(0, x)]) (z : ByteArray) (bytes : Nat) (ht : P.underlying t = some (.slice e)) (hinfo : (P.info? e).map (fun i => (i.zero, i.size, i.bytes)) = some (some (.string z), 1, bytes))
    (s : ByteArray) (hx : a.eval x = .string s) (h : wpList P ops Q rest (a.put o.dst (.slice (some ⟨w.heap.size, 0, none⟩) 1 1)) (w.alloc (.cells #[.string s] e))) : wpList P ops Q (o :: rest) a w :=
  wpList_plain hgd fun _ hK => by
    unfold Oper.wp execOp
    simp only [ho, List.map_toArray, List.map_cons, List.map_nil, hx, run_buildSlice_S t e z bytes ht hinfo s, Sem.run_bind, Result.andThen_ok]
    exact hK _ _ h
/-- Results: a struct's cell and two slots. -/
theorem results_row_tmp2 {fn : Func} {p q r : Tmp} {ty : TypeId} (h : fn.results = #[.cell p ty, .tmp q, .tmp r]) (tmps : Array Value) (w : World) (g : Nat) (t : TypeId) (cs : Array Value) (fr : Nat × Nat) (d : TypeDesc)
    (hp : tmps.getD p undef = .pointer (some ⟨g, 0, none⟩)) (hg : w.heap[g]? = some (.cells cs t fr))
    (hu : P.underlying ty = some d) (hd : (match d with | .struct _ | .array _ _ => true | _ => false) = true) (hi : (P.info? ty).map (·.size) = some cs.size) :
    (results fn tmps).run P w = .ok (.tuple #[.agg cs, tmps.getD q undef, tmps.getD r undef]) w := by
  have h0 : (results fn tmps).run P w = ((asAddr (tmps.getD p undef)).run P w).andThen fun a w₁ => ((loadVar ty a).run P w₁).andThen fun v w₂ => .ok (.tuple #[v, tmps.getD q undef, tmps.getD r undef]) w₂ := by
    simp only [results, h]
    simp [Sem.run_bind, Result.andThen]
  rw [h0, hp]
  simp [asAddr, run_loadVar_row w g t ty cs fr d hg hu hd hi]
end
end Go.Proofs.YthmepecedjamcaaDoor
/- store.Add answers addE: the store that comes of it, the place, and the number of the error. -/
namespace Go.Proofs.YthmepecedjamcaaDoor
open Go.RowKit
/-- What comes of adding an item. -/
def addE (ss : List ByteArray) (a : ByteArray) : List ByteArray × Int × Int :=
  if 0 ≤ findE ss (digE a) then (if ss.getD (findE ss (digE a)).toNat ByteArray.empty = a then (ss, findE ss (digE a), 0) else ([], 0, 8))
  else if 1000 ≤ ss.length then ([], 0, 2) else (ss ++ [a], ss.length, 0)
theorem addE_same {ss : List ByteArray} {a : ByteArray} {j : Nat} (h : findE ss (digE a) = (j : Int)) (he : ss.getD j ByteArray.empty = a) : addE ss a = (ss, (j : Int), 0) := by
  unfold addE; rw [h, if_pos (by omega), Int.toNat_natCast, if_pos he]
theorem addE_other {ss : List ByteArray} {a : ByteArray} {j : Nat} (h : findE ss (digE a) = (j : Int)) (he : ss.getD j ByteArray.empty ≠ a) : addE ss a = ([], 0, 8) := by
  unfold addE; rw [h, if_pos (by omega), Int.toNat_natCast, if_neg he]
theorem addE_full {ss : List ByteArray} {a : ByteArray} (h : findE ss (digE a) = -1) (hl : 1000 ≤ ss.length) : addE ss a = ([], 0, 2) := by
  unfold addE; rw [h, if_neg (by omega), if_pos hl]
theorem addE_new {ss : List ByteArray} {a : ByteArray} (h : findE ss (digE a) = -1) (hl : ss.length < 1000) : addE ss a = (ss ++ [a], (ss.length : Int), 0) := by
  unfold addE; rw [h, if_neg (by omega), if_neg (by omega)]
theorem info_strg : (Tryd.prog.info? 9).map (fun i => (i.zero, i.size, i.bytes)) = some (some (.string ByteArray.empty), 1, 16) := by kernel_rfl
theorem SlS.setRow {w : World} {A A0 : Option Addr} {n c n0 c0 g : Nat} {l : List ByteArray} {e : TypeId} (h : SlS w A n c l) (hB : Blk w g e #[.slice A0 n0 c0]) (cs : Array Value) : SlS (w.setRow g cs) A n c l := by
  obtain ⟨h1, h2, h3, h4⟩ := h
  refine ⟨h1, h2, h3, fun hn => ?_⟩
  obtain ⟨g', o, e', hl, hc⟩ := h4 hn
  have hne : g' ≠ g := by
    intro he
    subst he
    have := hc 0 hn
    rw [hB.cell] at this
    rcases o with _ | o <;> simp at this
  refine ⟨g', o, e', by simpa using hl, fun i hi => ?_⟩
  exact (cell_setRow_other w g cs ⟨g', o + i, Option.none⟩ hne).trans (hc i hi)
theorem build_st1 (A : Option Addr) (n c : Nat) (w : World) : (Instr.build TSt #[(0, .slice A n c)]).run Tryd.prog w = .ok (.agg #[.slice A n c]) w := run_build w TSt _ _ (by kernel_rfl)
structure AdAt (w0 w : World) (A : Option Addr) (n c : Nat) (ss : List ByteArray) : Prop where
  st : StAt w0 w A n c ss
  res : Blk w (w0.heap.size + 1) TSt #[.slice none 0 0]
theorem AdAt.grow {w0 w w' : World} {A : Option Addr} {n c : Nat} {ss : List ByteArray} (h : AdAt w0 w A n c ss) (hg : Grow w w') : AdAt w0 w' A n c ss := ⟨h.st.grow hg, h.res.grow hg⟩
theorem AdAt.new {w : World} {A : Option Addr} {n c : Nat} {ss : List ByteArray} (hs : SlS w A n c ss) (hP : Places w) : AdAt w ((w.alloc (.cells #[.slice A n c] TSt)).alloc (.cells #[.slice none 0 0] TSt)) A n c ss :=
  ⟨(StAt.new hs hP).grow ((Grow.refl _).alloc (Nat.le_refl _) _), Blk.new1 _ _ _ _⟩
theorem st_one (A : Option Addr) (n c : Nat) : (#[Value.slice A n c]).all (·.oneCell') = true := by simp [Value.oneCell']
set_option maxRecDepth 100000 in
set_option maxHeartbeats 4000000 in
theorem add_c (A : Option Addr) (n c : Nat) (ss : List ByteArray) (a : ByteArray) (w : World) (hn : n ≤ 1000000) (ha : a.size ≤ 1000000) (hsm : small ss) (hP : Places w) (hs : SlS w A n c ss) :
    Calls Tryd.prog 32 #[.agg #[.slice A n c], .string a] w fun e w' => ∃ A' n' c', e = .returned (.tuple #[.agg #[.slice A' n' c'], .int .i64 (addE ss a).2.1, .int .i64 (addE ss a).2.2]) ∧ SlS w' A' n' c' (addE ss a).1 ∧ Grow w w' := by
  have H0 := Lib.hid (AdAt.new hs hP)
  have HM := Lib.hid hsm
  have HL := Lib.hid hs.2.2.1
  have Hc := Lib.hid (findE_cases ss (digE a))
  have Esame := Lib.hid (fun j h he => addE_same (ss := ss) (a := a) (j := j) h he)
  have Eoth := Lib.hid (fun j h he => addE_other (ss := ss) (a := a) (j := j) h he)
  have Efull := Lib.hid (fun h hl => addE_full (ss := ss) (a := a) h hl)
  have Enew := Lib.hid (fun h hl => addE_new (ss := ss) (a := a) h hl)
  have m1 := Lib.hid (fun W (hp : Places W) => of_s a W ha hp)
  clear hs hP hsm
  generalize digE a = x at *
  have m2 := Lib.hid (fun W (hW : AdAt w W A n c ss) => find_c x A n c ss W hn HM.out hW.st.pla hW.st.sl)
  generalize findE ss x = fi at *
  go_enter Tryd.func32, Tryd.ntmps32
  go_upto_region 1 with (fail)
  refine wp_gen (fun W => AdAt w W A n c ss) H0.out ?_
  clear H0
  intro w1 h1
  have H1 := Lib.hid h1
  clear h1
  refine wp_region_all (fun W => AdAt w W A n c ss) (by kernel_rfl) (by kernel_rfl) (H1.out.grow (Grow.refl _).drew) ?_
  refine quiet_load_row rfl TSt (.tmp 2) rfl w.heap.size rfl _ #[.slice A n c] (0, 0) _ (fun W hW => hW.st.box) Tryd.underlying26 rfl (st_row A n c) ?_
  simp only [Act.put, List.setIfInBounds_toArray, List.set_cons_zero, List.set_cons_succ]
  (refine quiet_ex rfl ?_; apply Exists.intro; refine ⟨fun W hW => ?_, ?_⟩)
  · go_simp; try with_reducible rfl
  simp only [Act.put, List.setIfInBounds_toArray, List.set_cons_zero, List.set_cons_succ]
  (refine quiet_at rfl ⟨.agg (us x.1), fun W hW => ?_, ?_⟩)
  · go_simp; exact (m1.out _ hW.st.pla).mono (fun e w' h => ⟨h.1, hW.grow h.2⟩)
  simp only [Act.put, List.setIfInBounds_toArray, List.set_cons_zero, List.set_cons_succ]
  (refine quiet_at rfl ⟨.int .i64 fi, fun W hW => ?_, ?_⟩)
  · go_simp; exact (m2.out _ hW).mono (fun e w' h => ⟨h.1, hW.grow h.2⟩)
  simp only [Act.put, List.setIfInBounds_toArray, List.set_cons_zero, List.set_cons_succ]
  (refine quiet_ex rfl ?_; apply Exists.intro; refine ⟨fun W hW => ?_, ?_⟩)
  · go_simp; try with_reducible rfl
  simp only [Act.put, List.setIfInBounds_toArray, List.set_cons_zero, List.set_cons_succ]
  refine wpQuiet_nil ?_
  intro w2 h2
  have hcell := h2.st.box.cell 0
  have hB := h2.st.box
  have hR := h2.res
  have H2 := Lib.hid h2
  clear h2 H1 m1 m2
  rcases Hc.out with hno | ⟨j, hj, hyes⟩
  · subst hno
    by_cases hl : 1000 ≤ n
    · have t1 : decide ((1000 : Int) ≤ (n : Int)) = true := by simp; omega
      have t1' : decide (1000 ≤ n) = true := by simp; omega
      have Hf := Lib.hid (Efull.out rfl (by rw [HL.out]; exact hl))
      go_wp2_with (first
        | (refine wpList_build rfl TSt #[] rfl [] (by simp) (.agg #[.slice none 0 0]) (build_st0 _) ?_)
        | (refine wpList_store_row rfl TSt (.tmp 4) (.tmp 30) rfl (w.heap.size + 1) #[.slice none 0 0] rfl rfl _ _ hR (st_row _ _ _) rfl (st_one _ _ _) ?_))
      refine bodyPost_ret (results_row_tmp2 (p := 4) (q := 5) (r := 6) (ty := TSt) rfl _ _ (w.heap.size + 1) _ #[.slice none 0 0] (0, 0) _ rfl (setRow_heap _ _ _ _ _ _ hR) Tryd.underlying26 rfl (st_row _ _ _)) rfl ⟨none, 0, 0, by rw [Hf.out]; rfl, by rw [Hf.out]; exact SlS.none _, H2.out.st.gro.setRow (by omega) _⟩
    · have t1 : decide ((1000 : Int) ≤ (n : Int)) = false := by simp; omega
      have t1' : decide (1000 ≤ n) = false := by simp; omega
      have Hf := Lib.hid (show addE ss a = (ss ++ [a], (n : Int), 0) by rw [Enew.out rfl (by rw [HL.out]; omega), HL.out])
      have hga : Grow w2 (w2.alloc (.cells #[.string a] 9)) := (Grow.refl _).alloc (Nat.le_refl _) _
      have hs3 : SlS (w2.alloc (.cells #[.string a] 9)) A n n ss := by
        have := (H2.out.st.sl.grow hga).take n n (Nat.le_refl _) (Nat.le_refl _) (by simp only [maxLen]; omega)
        rwa [List.take_of_length_le (by rw [HL.out]; omega)] at this
      have hcc := H2.out.st.sl.1
      go_upto_region 9 with (fail)
      clear t1 t1'
      have b1 : (0 : Int) ≤ n := by omega
      go_wp2_with (first
        | (refine wpList_buildSlice_S rfl 22 9 (.tmp 36) rfl ByteArray.empty 16 Tryd.underlying22 info_strg a rfl ?_)
        | (at_builtin; refine wpList_append_fullS rfl (.tmp 35) (.tmp 37) 22 rfl 9 (.string ByteArray.empty) 16 Tryd.underlying22 info_strg A n ss rfl hs3 w2.heap.size a rfl (Blk.new _ _ _) (by simp only [maxLen]; omega) (by omega) ?_; intro A' c' w3 hs4 hg4; have hR3 := (hR.alloc (.cells #[.string a] 9)).grow hg4)
        | (refine wpList_build rfl TSt #[(0, .tmp 38)] rfl [(0, .slice A' (n + 1) c')] (by simp only [List.map_toArray, List.map_cons, List.map_nil]; rfl) (.agg #[.slice A' (n + 1) c']) (build_st1 A' (n + 1) c' _) ?_)
        | (refine wpList_store_row rfl TSt (.tmp 4) (.tmp 39) rfl (w.heap.size + 1) #[.slice A' (n + 1) c'] rfl rfl _ _ hR3 (st_row _ _ _) rfl (st_one _ _ _) ?_))
      refine bodyPost_ret (results_row_tmp2 (p := 4) (q := 5) (r := 6) (ty := TSt) rfl _ _ (w.heap.size + 1) _ #[.slice A' (n + 1) c'] (0, 0) _ rfl (setRow_heap _ _ _ _ _ _ hR3) Tryd.underlying26 rfl (st_row _ _ _)) rfl ⟨A', n + 1, c', by rw [Hf.out]; rfl, by rw [Hf.out]; exact hs4.setRow hR3 _, (H2.out.st.gro.tr (hga.tr hg4)).setRow (by omega) _⟩
  · rw [HL.out] at hj
    subst hyes
    have t0 : decide ((0 : Int) ≤ (j : Int)) = true := by simp
    have b1 : (0 : Int) ≤ j := by omega
    have b2 : (j : Int) < n := by omega
    obtain ⟨g, o, rfl, -, -⟩ := H2.out.st.sl.2.2.2 (by omega)
    have hcc := Lib.hid H2.out.st.sl.1
    have hc2 := H2.out.st.sl.at j hj
    have Es := Lib.hid (Esame.out j rfl)
    have Eo := Lib.hid (Eoth.out j rfl)
    clear Esame Eoth Efull Enew
    generalize ss.getD j ByteArray.empty = s at *
    by_cases he : s = a
    · have Hf := Lib.hid (Es.out he)
      have t2 : (s.toList == a.toList) = true := by rw [he]; simp
      clear he
      go_wp2_with (first
        | (refine wpList_store_row rfl TSt (.tmp 4) (.tmp 23) rfl (w.heap.size + 1) #[.slice (some ⟨g, o, none⟩) n c] rfl rfl _ _ hR (st_row _ _ _) rfl (st_one _ _ _) ?_))
      refine bodyPost_ret (results_row_tmp2 (p := 4) (q := 5) (r := 6) (ty := TSt) rfl _ _ (w.heap.size + 1) _ #[.slice (some ⟨g, o, none⟩) n c] (0, 0) _ rfl (setRow_heap _ _ _ _ _ _ hR) Tryd.underlying26 rfl (st_row _ _ _)) rfl ⟨some ⟨g, o, none⟩, n, c, by rw [Hf.out]; rfl, by rw [Hf.out]; exact H2.out.st.sl.setRow hR _, H2.out.st.gro.setRow (by omega) _⟩
    · have Hf := Lib.hid (Eo.out he)
      have t2 : (s.toList == a.toList) = false := by simpa [ByteArray.toList_eq, ByteArray.ext_iff] using he
      clear he
      go_wp2_with (first
        | (refine wpList_build rfl TSt #[] rfl [] (by simp) (.agg #[.slice none 0 0]) (build_st0 _) ?_)
        | (refine wpList_store_row rfl TSt (.tmp 4) (.tmp 22) rfl (w.heap.size + 1) #[.slice none 0 0] rfl rfl _ _ hR (st_row _ _ _) rfl (st_one _ _ _) ?_))
      refine bodyPost_ret (results_row_tmp2 (p := 4) (q := 5) (r := 6) (ty := TSt) rfl _ _ (w.heap.size + 1) _ #[.slice none 0 0] (0, 0) _ rfl (setRow_heap _ _ _ _ _ _ hR) Tryd.underlying26 rfl (st_row _ _ _)) rfl ⟨none, 0, 0, by rw [Hf.out]; rfl, by rw [Hf.out]; exact SlS.none _, H2.out.st.gro.setRow (by omega) _⟩
end Go.Proofs.YthmepecedjamcaaDoor
/- seedcornlaw42.small answers whether a store has few items, of few bytes each, no one twice; and facts of the digest of "ab" (awake). -/
namespace Go.Proofs.YthmepecedjamcaaDoor
open Go.RowKit
theorem fewE_small42 {ss : List ByteArray} {most bytes : Nat} (h : fewE ss most bytes = true) (hb : bytes ≤ 1000000) : small ss := fun s hs => Nat.le_trans ((fewE_spec h).2 s hs) hb
set_option maxRecDepth 100000 in
set_option maxHeartbeats 2000000 in
theorem small42_c (A : Option Addr) (n c : Nat) (ss : List ByteArray) (w : World) (hsz : ∀ s ∈ ss, s.size ≤ maxLen) (hP : Places w) (hs : SlS w A n c ss) :
    Calls Tryd.prog 33 #[.agg #[.slice A n c]] w fun e w' => e = .returned (.bool (fewE ss 20 60 && rightE ss)) ∧ Grow w w' := by
  have HS0 := Lib.hid (StAt.new hs hP)
  have HL := Lib.hid hs.2.2.1
  have f1 := Lib.hid (fun W (hW : StAt w W A n c ss) => rfew_c A n c ss 20 60 W (by omega) (by omega) hsz hW.pla hW.sl)
  have f2 := Lib.hid (fun W (hW : StAt w W A n c ss) (h : fewE ss 20 60 = true) => rright_c A n c ss W (by have := (fewE_spec h).1; rw [hs.2.2.1] at this; omega) (fewE_small42 h (by omega)) hW.pla hW.sl)
  clear hs hP hsz
  generalize hb : fewE ss 20 60 = b at *
  generalize hr : rightE ss = r at *
  clear hb hr
  go_enter Tryd.func33, Tryd.ntmps33
  go_upto_region 1 with (fail)
  refine wp_gen (fun W => StAt w W A n c ss) HS0.out ?_
  clear HS0
  intro w1 h1
  have hB := h1.box
  have H1 := Lib.hid h1
  clear h1
  go_wp2_with (refine wpList_load_row_g rfl TSt (.tmp 1) rfl w.heap.size rfl _ #[.slice A n c] (0, 0) _ hB Tryd.underlying26 rfl (st_row A n c) ?_)
  refine (f1.out _ H1.out).mono ?_
  rintro e w2 ⟨rfl, hg2⟩
  have hB2 := hB.grow hg2
  have H2 := Lib.hid (H1.out.grow hg2)
  clear hg2 hB
  cases b
  · go_wp2_with fail
    go_ret
    exact ⟨rfl, H2.out.gro⟩
  · go_wp2_with (refine wpList_load_row_g rfl TSt (.tmp 1) rfl w.heap.size rfl _ #[.slice A n c] (0, 0) _ hB2 Tryd.underlying26 rfl (st_row A n c) ?_)
    refine (f2.out _ H2.out trivial).mono ?_
    rintro e w3 ⟨rfl, hg3⟩
    have H3 := Lib.hid (H2.out.grow hg3)
    clear hg3
    go_wp2_with fail
    go_ret
    exact ⟨by rw [Bool.true_and]; rfl, H3.out.gro⟩
theorem ab_nz : decide (ofE [97, 98] = D.zero) = false := by decide
end Go.Proofs.YthmepecedjamcaaDoor
