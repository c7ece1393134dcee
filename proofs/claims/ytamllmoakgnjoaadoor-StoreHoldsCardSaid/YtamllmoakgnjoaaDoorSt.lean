import Derived.Test.YtamllmoakgnjoaaDoorRoot
import Derived.Test.YtamllmoakgnjoaaDoorGen
import Derived.Laws.Tables
/- The digests of a store's items, of the program and of the document. -/
namespace Go.Proofs.YtamllmoakgnjoaaDoor
open Go.RowKit
abbrev TSt := 24
def digE (s : ByteArray) : D := ofE s.data.toList
def digsE (ss : List ByteArray) : List D := ss.map digE
theorem digsE_take_succ (ss : List ByteArray) (j : Nat) (hj : j < ss.length) : digsE (ss.take (j + 1)) = digsE (ss.take j) ++ [digE (ss.getD j ByteArray.empty)] := by
  unfold digsE
  rw [List.take_succ_eq_append_getElem hj, List.map_append]
  simp [List.getD, hj]
theorem digsE_length (ss : List ByteArray) : (digsE ss).length = ss.length := by simp [digsE]
theorem digsE_getD (ss : List ByteArray) (j : Nat) (hj : j < ss.length) : (digsE ss).getD j D.zero = digE (ss.getD j ByteArray.empty) := by simp [digsE, List.getD, hj]
def small (ss : List ByteArray) : Prop := ∀ s ∈ ss, s.size ≤ 1000000
theorem small.at {ss : List ByteArray} (h : small ss) (j : Nat) (hj : j < ss.length) : (ss.getD j ByteArray.empty).size ≤ 1000000 := by
  rw [List.getD_eq_getElem?_getD, List.getElem?_eq_getElem hj]
  exact h _ (List.getElem_mem hj)
theorem of_s (s : ByteArray) (w : World) (hm : s.size ≤ 1000000) (hP : Places w) :
    Calls Tryd.prog 64 #[.string s] w fun e w' => e = .returned (.agg (us (digE s).1)) ∧ Grow w w' := of_c s.data.toList w (by rw [Array.length_toList]; exact hm) hP
theorem rof_s (s : ByteArray) (w : World) (hm : s.size ≤ 1000000) :
    Calls Tryd.prog 62 #[.string s] w fun e w' => e = .returned (.agg (us (digE s).1)) ∧ Grow w w' := rof_c s.data.toList w (by rw [Array.length_toList]; exact hm)
structure StAt (w0 w : World) (A : Option Addr) (n c : Nat) (ss : List ByteArray) : Prop where
  box : Blk w w0.heap.size TSt #[.slice A n c]
  sl : SlS w A n c ss
  gro : Grow w0 w
  pla : Places w
theorem StAt.grow {w0 w w' : World} {A : Option Addr} {n c : Nat} {ss : List ByteArray} (h : StAt w0 w A n c ss) (hg : Grow w w') : StAt w0 w' A n c ss := ⟨h.box.grow hg, h.sl.grow hg, h.gro.tr hg, h.pla.grow hg⟩
theorem StAt.new {w : World} {A : Option Addr} {n c : Nat} {ss : List ByteArray} (hs : SlS w A n c ss) (hP : Places w) : StAt w (w.alloc (.cells #[.slice A n c] TSt)) A n c ss :=
  have hg : Grow w (w.alloc (.cells #[.slice A n c] TSt)) := (Grow.refl _).alloc (Nat.le_refl _) _
  ⟨Blk.new _ _ _, hs.grow hg, hg, hP.grow hg⟩
structure DgAt (w0 w1 w : World) (A : Option Addr) (n c : Nat) (ss : List ByteArray) (v : Value) (l : List D) : Prop where
  st : StAt w0 w A n c ss
  own : w.ownsRow w1.heap.size 27 4 v l.length (dcells l)
  gro : Grow w1 w
set_option maxRecDepth 100000 in
set_option maxHeartbeats 2000000 in
theorem digests_c (A : Option Addr) (n c : Nat) (ss : List ByteArray) (w : World) (hn : n ≤ 1000000) (hsm : small ss) (hP : Places w) (hs : SlS w A n c ss) :
    Calls Tryd.prog 73 #[.agg #[.slice A n c]] w fun e w' => ∃ v, e = .returned v ∧ w'.ownsRow w.heap.size 27 4 v n (dcells (digsE ss)) ∧ Grow w w' := by
  have HS0 := Lib.hid (StAt.new hs hP)
  have hmk := fun W => run_make_const (P := Tryd.prog) 38 27 _ 4 16 Tryd.underlying38 info_D 0 n (by omega) (by omega) (by omega) W
  simp only [Int.cast_ofNat_Int] at hmk
  have HM := Lib.hid hsm
  have HL := Lib.hid hs.2.2.1
  clear hs hP hsm
  go_enter Tryd.func73, Tryd.ntmps73
  go_upto_region 1 with (fail)
  refine wp_gen (fun W => StAt w W A n c ss) HS0.out ?_
  clear HS0
  intro w1 h1
  have hcell := h1.box.cell 0
  have H1 := Lib.hid h1
  clear h1
  go_upto_region 2 with (fail)
  clear hmk hcell
  have hown0 : (w1.alloc (.cells (madeCells #[Value.int .u32 0, Value.int .u32 0, Value.int .u32 0, Value.int .u32 0] (n * 4)) 27)).ownsRow w1.heap.size 27 4 (.slice (some ⟨w1.heap.size, 0, none⟩) 0 n) 0 [] :=
    World.ownsRow_made w1 _ n (Nat.le_refl _) (by simp only [maxLen]; omega) (by simp [madeCells])
  have hga : Grow w1 (w1.alloc (.cells (madeCells #[Value.int .u32 0, Value.int .u32 0, Value.int .u32 0, Value.int .u32 0] (n * 4)) 27)) := (Grow.refl _).alloc (Nat.le_refl _) _
  refine wp_gen (fun W => DgAt w w1 W A n c ss (.slice (some ⟨w1.heap.size, 0, none⟩) 0 n) []) ⟨H1.out.grow hga, hown0, hga⟩ ?_
  clear hown0 hga
  intro w2 h2
  have hcell := h2.st.box.cell 0
  have H2 := Lib.hid h2
  clear h2
  generalize Value.slice (some ⟨w1.heap.size, 0, none⟩) 0 n = v0 at *
  go_wp2_with fail
  clear hcell
  go_loopw [3, 13] (fun v i wr => ∃ j : Nat, j ≤ n ∧ i = .int .i64 j ∧ DgAt w w1 wr A n c ss v (digsE (ss.take j))) (fun _ i _ => n - (intOf i).toNat)
  case atStart => exact ⟨0, by omega, rfl, by rw [List.take_zero]; exact H2.out⟩
  case round =>
    obtain ⟨j, hj, rfl, hN⟩ := hrel
    have HN := Lib.hid hN
    clear hN H2
    by_cases hlt : j < n
    · have hj1 : decide ((j : Int) < (n : Int)) = true := by simp; omega
      have b1 : (0 : Int) ≤ j := by omega
      have b2 : (j : Int) < n := by omega
      obtain ⟨g, o, rfl, -, -⟩ := HN.out.st.sl.2.2.2 (by omega)
      have hcc := Lib.hid HN.out.st.sl.1
      have hcell := HN.out.st.sl.at j hlt
      have Hsucc := Lib.hid (digsE_take_succ ss j (by rw [HL.out]; exact hlt))
      have hsmj := HM.out.at j (by rw [HL.out]; exact hlt)
      have Hdl := Lib.hid (show (digsE (ss.take j)).length = j by rw [digsE_length, List.length_take, HL.out]; omega)
      generalize ss.getD j ByteArray.empty = s at *
      generalize digsE (ss.take j) = l at *
      go_wp2_with fail
      refine (of_s s _ hsmj HN.out.st.pla).mono ?_
      rintro e w3 ⟨rfl, hg3⟩
      clear hcell
      have H3 := Lib.hid (HN.out.st.grow hg3)
      have hown := ownsRow_grow HN.out.own hg3
      rw [Hdl.out] at hown
      have hbase := HN.out.gro.size
      have hgb := Lib.hid (HN.out.gro.tr hg3)
      have hbase2 : w1.heap.size ≤ w3.heap.size := hgb.out.size
      clear hg3
      generalize digE s = y at *
      go_wp2_with (first
        | (refine wpList_buildSlice_D rfl 38 27 (.tmp 19) rfl #[.int .u32 0, .int .u32 0, .int .u32 0, .int .u32 0] 16 rfl Tryd.underlying38 info_D y rfl ?_)
        | (at_builtin; refine wpList_append_new rfl (.tmp 17) (.tmp 20) 38 rfl w1.heap.size 27 (.agg #[.int .u32 0, .int .u32 0, .int .u32 0, .int .u32 0]) 4 16 Tryd.underlying38 info_D rfl (by omega) _ j _ rfl hown 1 1 (y.1.map u) rfl (by simp [y.2]) (us_news y) (by simp only [maxLen]; omega) (by omega) hbase2 ?_; intro v' w4 hown' hbel' _))
      go_roundw
      case rel =>
        refine ⟨j + 1, by omega, by go_num, ?_⟩
        rw [Hsucc.out]
        have hg4 : Grow w1 w4 := hgb.out.trans hbel'
        refine ⟨?_, ?_, hg4⟩
        · exact ⟨H1.out.box.grow hg4, H1.out.sl.grow hg4, H1.out.gro.tr hg4, H1.out.pla.grow hg4⟩
        · rw [List.length_append, Hdl.out, dcells_append, dcells_one]
          exact hown'
      case measure => simp [intOf]; omega
    · have e : j = n := by omega
      subst e
      have hj1 : decide ((j : Int) < (j : Int)) = false := by simp
      rw [List.take_of_length_le (by rw [HL.out]; omega)] at HN
      have hown := HN.out.own
      rw [digsE_length, HL.out] at hown
      have Hown := Lib.hid hown
      clear hown
      go_wp2_with fail
      go_ret
      exact ⟨_, rfl, ownsRow_base Hown.out H1.out.gro.size, H1.out.gro.tr HN.out.gro⟩
end Go.Proofs.YtamllmoakgnjoaaDoor
/- seedcornref42.Digests: the digests of a store's items. -/
namespace Go.Proofs.YtamllmoakgnjoaaDoor
open Go.RowKit
set_option maxRecDepth 100000 in
set_option maxHeartbeats 2000000 in
theorem rdigests_c (A : Option Addr) (n c : Nat) (ss : List ByteArray) (w : World) (hn : n ≤ 1000000) (hsm : small ss) (hP : Places w) (hs : SlS w A n c ss) :
    Calls Tryd.prog 39 #[.agg #[.slice A n c]] w fun e w' => ∃ v, e = .returned v ∧ w'.ownsRow w.heap.size 27 4 v n (dcells (digsE ss)) ∧ Grow w w' := by
  have HS0 := Lib.hid (StAt.new hs hP)
  have HM := Lib.hid hsm
  have HL := Lib.hid hs.2.2.1
  clear hs hP hsm
  go_enter Tryd.func39, Tryd.ntmps39
  go_upto_region 1 with (fail)
  refine wp_gen (fun W => StAt w W A n c ss) HS0.out ?_
  clear HS0
  intro w1 h1
  have hcell := h1.box.cell 0
  have H1 := Lib.hid h1
  clear h1
  have H2 := Lib.hid (DgAt.mk H1.out (World.ownsRow_nil w1 w1.heap.size 27 4) (Grow.refl w1) : DgAt w w1 w1 A n c ss (.slice none 0 0) [])
  go_wp2_with fail
  clear hcell
  go_loopw [3, 4] (fun v i wr => ∃ j : Nat, j ≤ n ∧ i = .int .i64 j ∧ DgAt w w1 wr A n c ss v (digsE (ss.take j))) (fun _ i _ => n - (intOf i).toNat)
  case atStart => exact ⟨0, by omega, rfl, by rw [List.take_zero]; exact H2.out⟩
  case round =>
    obtain ⟨j, hj, rfl, hN⟩ := hrel
    have HN := Lib.hid hN
    clear hN H2
    by_cases hlt : j < n
    · have hj1 : decide ((j : Int) < (n : Int)) = true := by simp; omega
      have b1 : (0 : Int) ≤ j := by omega
      have b2 : (j : Int) < n := by omega
      obtain ⟨g, o, rfl, -, -⟩ := HN.out.st.sl.2.2.2 (by omega)
      have hcc := Lib.hid HN.out.st.sl.1
      have hcell := HN.out.st.sl.at j hlt
      have hcell2 := HN.out.st.box.cell 0
      have Hsucc := Lib.hid (digsE_take_succ ss j (by rw [HL.out]; exact hlt))
      have hsmj := HM.out.at j (by rw [HL.out]; exact hlt)
      have Hdl := Lib.hid (show (digsE (ss.take j)).length = j by rw [digsE_length, List.length_take, HL.out]; omega)
      generalize ss.getD j ByteArray.empty = s at *
      generalize digsE (ss.take j) = l at *
      go_wp2_with fail
      refine (rof_s s _ hsmj).mono ?_
      rintro e w3 ⟨rfl, hg3⟩
      clear hcell hcell2
      have H3 := Lib.hid (HN.out.st.grow hg3)
      have hown := ownsRow_grow HN.out.own hg3
      rw [Hdl.out] at hown
      have hbase := HN.out.gro.size
      have hgb := Lib.hid (HN.out.gro.tr hg3)
      have hbase2 : w1.heap.size ≤ w3.heap.size := hgb.out.size
      clear hg3
      generalize digE s = y at *
      go_wp2_with (first
        | (refine wpList_buildSlice_D rfl 38 27 (.tmp 18) rfl #[.int .u32 0, .int .u32 0, .int .u32 0, .int .u32 0] 16 rfl Tryd.underlying38 info_D y rfl ?_)
        | (at_builtin; refine wpList_append_new rfl (.tmp 12) (.tmp 19) 38 rfl w1.heap.size 27 (.agg #[.int .u32 0, .int .u32 0, .int .u32 0, .int .u32 0]) 4 16 Tryd.underlying38 info_D rfl (by omega) _ j _ rfl hown 1 1 (y.1.map u) rfl (by simp [y.2]) (us_news y) (by simp only [maxLen]; omega) (by omega) hbase2 ?_; intro v' w4 hown' hbel' _))
      go_roundw
      case rel =>
        refine ⟨j + 1, by omega, by go_num, ?_⟩
        rw [Hsucc.out]
        have hg4 : Grow w1 w4 := hgb.out.trans hbel'
        refine ⟨?_, ?_, hg4⟩
        · exact ⟨H1.out.box.grow hg4, H1.out.sl.grow hg4, H1.out.gro.tr hg4, H1.out.pla.grow hg4⟩
        · rw [List.length_append, Hdl.out, dcells_append, dcells_one]
          exact hown'
      case measure => simp [intOf]; omega
    · have e : j = n := by omega
      subst e
      have hj1 : decide ((j : Int) < (j : Int)) = false := by simp
      have hcell2 := HN.out.st.box.cell 0
      rw [List.take_of_length_le (by rw [HL.out]; omega)] at HN
      have hown := HN.out.own
      rw [digsE_length, HL.out] at hown
      have Hown := Lib.hid hown
      clear hown
      go_wp2_with fail
      go_ret
      exact ⟨_, rfl, ownsRow_base Hown.out H1.out.gro.size, H1.out.gro.tr HN.out.gro⟩
end Go.Proofs.YtamllmoakgnjoaaDoor
/- A head as a value: built, its parts, two heads compared. -/
namespace Go.Proofs.YtamllmoakgnjoaaDoor
open Go.RowKit
abbrev THd := 29
/-- The cells of a head. -/
def hdC (k : Int) (d : D) : Array Value := (Value.int .i64 k :: d.1.map u).toArray
theorem hdC_size (k : Int) (d : D) : (hdC k d).size = 5 := by simp [hdC, d.2]
theorem hdC_one (k : Int) (d : D) : (hdC k d).all (·.oneCell') = true := by
  rw [Array.all_eq_true_iff_forall_mem]
  simp [hdC, Value.oneCell']
theorem hdC_root (k : Int) (d : D) : (hdC k d).extract 1 5 = us d.1 := by
  obtain ⟨l, hl⟩ := d
  match l, hl with
  | [x0, x1, x2, x3], _ => rfl
theorem hdC_get0 (k : Int) (d : D) : (hdC k d)[0]? = some (.int .i64 k) := rfl
theorem hdC_get (k : Int) (d : D) (j : Nat) (hj : j < 4) : (hdC k d)[1 + j]? = some (u (d.1.getD j 0)) := by
  have := D.get d j hj
  rw [Nat.add_comm]
  simpa [hdC] using this
theorem build_head (k : Int) (d : D) (w : World) : (Instr.build THd #[(0, .int .i64 k), (1, .agg (us d.1))]).run Tryd.prog w = .ok (.agg (hdC k d)) w := by
  obtain ⟨l, hl⟩ := d
  match l, hl with
  | [x0, x1, x2, x3], _ => exact run_build w THd _ _ (by kernel_rfl)
theorem eqin_head (k k' : Int) (r r' : D) (w : World) : (Op.equalIn 10000 THd (.agg (hdC k r)) (.agg (hdC k' r'))).run Tryd.prog w = .ok ((k == k') && decide (r = r')) w := by
  have h1 := run_equalIn_us w 9997 27 25 4 Tryd.underlying27 Tryd.underlying25 sizeOf_u32 r.1 r'.1 r.2 r'.2
  have h2 : (r.1 == r'.1) = decide (r = r') := by
    rw [Bool.eq_iff_iff]; simp [Subtype.ext_iff]
  rw [h2] at h1
  rw [run_equalIn_struct w 9999 THd _ _ (by kernel_rfl) (by kernel_rfl)]
  have p0 : ∀ w, (isAgg 3).run Tryd.prog w = .ok false w := fun _ => by kernel_rfl
  have p1 : ∀ w, (isAgg 27).run Tryd.prog w = .ok true w := fun _ => by kernel_rfl
  have p2 : ∀ w, (sizeOf 27).run Tryd.prog w = .ok 4 w := fun _ => by kernel_rfl
  have hi : ∀ (a b : Int) w, (Op.equalIn 9999 3 (.int .i64 a) (.int .i64 b)).run Tryd.prog w = .ok (a == b) w := fun a b w => run_equalIn_int w 9998 3 .i64 .i64 a b Tryd.underlying3
  simp only [Program.fieldsOf, Tryd.underlying29]
  simp [Op.eqFields, part, p0, p1, p2, hi, hdC_get0, hdC_root, h1]
  by_cases hk : k = k' <;> by_cases hr : r = r' <;> simp [hk, hr]
theorem eqin_D9 (r r' : D) (w : World) : (Op.equalIn 9999 27 (.agg (us r.1)) (.agg (us r'.1))).run Tryd.prog w = .ok (decide (r = r')) w := by
  have h1 := run_equalIn_us w 9997 27 25 4 Tryd.underlying27 Tryd.underlying25 sizeOf_u32 r.1 r'.1 r.2 r'.2
  have h2 : (r.1 == r'.1) = decide (r = r') := by
    rw [Bool.eq_iff_iff]; simp [Subtype.ext_iff]
  rw [h2] at h1
  exact h1
section
variable {P : Program} {ops : Array Oper} {C : World → Prop}
/-- A struct or an array laid out of its parts: a quiet operation. -/
theorem quiet_build {o : Oper} {rest : List Oper} {Q : Act → Prop} {a : Act} (hgd : Region.wanted o (yielded ops a.tmps) = true) (ty : TypeId) (ps : Array (Nat × Operand)) (ho : o.op = .build ty ps) (vs : List (Nat × Value))
    (hv : (ps.map fun x => (x.1, a.eval x.2)) = vs.toArray) (v : Value) (hr : ∀ w, (Instr.build ty vs.toArray).run P w = .ok v w)
    (h : wpQuiet P ops C Q rest (a.put o.dst v)) : wpQuiet P ops C Q (o :: rest) a :=
  quiet_val v hgd (fun w _ => by unfold execOp; simp only [ho, hv, Sem.run_bind, hr, Result.andThen_ok, Sem.run_pure]) h
theorem run_build_op {o : Oper} {a : Act} {w : World} (ty : TypeId) (ps : Array (Nat × Operand)) (ho : o.op = .build ty ps) (vs : List (Nat × Value))
    (hv : (ps.map fun x => (x.1, a.eval x.2)) = vs.toArray) (v : Value) (hr : (Instr.build ty vs.toArray).run P w = .ok v w) : (execOp a.eval o).run P w = .ok (.value v) w := by
  unfold execOp; simp only [ho, hv, Sem.run_bind, hr, Result.andThen_ok, Sem.run_pure]
theorem wpList_build {o : Oper} {rest : List Oper} {Q : Exit → Act → World → Prop} {a : Act} {w : World} (hgd : Region.wanted o (yielded ops a.tmps) = true) (ty : TypeId) (ps : Array (Nat × Operand)) (ho : o.op = .build ty ps) (vs : List (Nat × Value))
    (hv : (ps.map fun x => (x.1, a.eval x.2)) = vs.toArray) (v : Value) (hr : (Instr.build ty vs.toArray).run P w = .ok v w)
    (h : wpList P ops Q rest (a.put o.dst v) w) : wpList P ops Q (o :: rest) a w := by
  unfold wpList
  rw [if_pos hgd]
  refine .inl ?_
  unfold Oper.wp
  rw [run_build_op ty ps ho vs hv v hr]
  exact h
end
end Go.Proofs.YtamllmoakgnjoaaDoor
/- store.Root, store.Head and head.Lost. -/
namespace Go.Proofs.YtamllmoakgnjoaaDoor
open Go.RowKit
theorem st_row (A : Option Addr) (n c : Nat) : (Tryd.prog.info? TSt).map (·.size) = some (#[Value.slice A n c]).size := by kernel_rfl
theorem hd_row (k : Int) (d : D) : (Tryd.prog.info? THd).map (·.size) = some (hdC k d).size := by rw [hdC_size]; kernel_rfl
set_option maxRecDepth 100000 in
set_option maxHeartbeats 2000000 in
theorem sroot_c (A : Option Addr) (n c : Nat) (ss : List ByteArray) (w : World) (hn : n ≤ 1000000) (hsm : small ss) (hP : Places w) (hs : SlS w A n c ss) :
    Calls Tryd.prog 41 #[.agg #[.slice A n c]] w fun e w' => e = .returned (.agg (us (rootE noneE (digsE ss)).1)) ∧ Grow w w' := by
  have HS0 := Lib.hid (StAt.new hs hP)
  have HM := Lib.hid hsm
  clear hs hP hsm
  go_enter Tryd.func41, Tryd.ntmps41
  go_upto_region 1 with (fail)
  have hg0 : Grow (w.alloc (.cells #[.slice A n c] TSt)) ((w.alloc (.cells #[.slice A n c] TSt)).alloc (.cells (us D.zero.1) 27)) := (Grow.refl _).alloc (Nat.le_refl _) _
  refine wp_gen (fun W => StAt w W A n c ss ∧ Blk W (w.heap.size + 1) 27 (us D.zero.1)) ⟨HS0.out.grow hg0, Blk.new1 _ _ _ _⟩ ?_
  clear HS0 hg0
  intro w1 h1
  have hB := h1.1.box
  have H1 := Lib.hid h1
  clear h1
  go_wp2_with (refine wpList_load_row_g rfl TSt (.tmp 1) rfl w.heap.size rfl _ #[.slice A n c] (0, 0) _ hB Tryd.underlying24 rfl (st_row A n c) ?_)
  refine (digests_c A n c ss _ hn HM.out H1.out.1.pla H1.out.1.sl).mono ?_
  rintro e w2 ⟨v, rfl, ho, hg2⟩
  obtain ⟨A2, c2, rfl, hs2⟩ := SlD.of_own ho
  have H2 := Lib.hid (And.intro (H1.out.1.grow hg2) (And.intro (H1.out.2.grow hg2) hs2))
  clear ho hs2 hg2 hB
  go_wp2_with fail
  refine (root_c n n (Nat.le_refl _) hn A2 c2 (digsE ss) _ H2.out.1.pla H2.out.2.2).mono ?_
  rintro e w3 ⟨rfl, hg3⟩
  have hR := H2.out.2.1.grow hg3
  have H3 := Lib.hid (H2.out.1.grow hg3)
  clear hg3
  have sy := (rootE noneE (digsE ss)).sz
  have oy := (rootE noneE (digsE ss)).one
  generalize hy : rootE noneE (digsE ss) = y at *
  have Hy := Lib.hid hy
  clear hy
  go_wp2_with (refine wpList_store_row rfl 27 (.tmp 2) (.tmp 5) rfl (w.heap.size + 1) (us y.1) rfl rfl _ _ hR (by rw [sy]; kernel_rfl) (by rw [sy]; exact D.zero.sz) oy ?_)
  refine bodyPost_ret (results_cell_row (p := 2) (ty := 27) rfl _ _ (w.heap.size + 1) _ (us y.1) (0, 0) _ rfl (setRow_heap _ _ _ _ _ _ hR) Tryd.underlying27 rfl (by rw [sy]; kernel_rfl)) rfl ⟨by rw [Hy.out], ?_⟩
  exact H3.out.gro.setRow (by omega) _
set_option maxRecDepth 100000 in
set_option maxHeartbeats 2000000 in
theorem shead_c (A : Option Addr) (n c : Nat) (ss : List ByteArray) (w : World) (hn : n ≤ 1000000) (hsm : small ss) (hP : Places w) (hs : SlS w A n c ss) :
    Calls Tryd.prog 42 #[.agg #[.slice A n c]] w fun e w' => e = .returned (.agg (hdC n (rootE noneE (digsE ss)))) ∧ Grow w w' := by
  have HS0 := Lib.hid (StAt.new hs hP)
  have HM := Lib.hid hsm
  clear hs hP hsm
  go_enter Tryd.func42, Tryd.ntmps42
  go_upto_region 1 with (fail)
  have hg0 : Grow (w.alloc (.cells #[.slice A n c] TSt)) ((w.alloc (.cells #[.slice A n c] TSt)).alloc (.cells (hdC 0 D.zero) THd)) := (Grow.refl _).alloc (Nat.le_refl _) _
  refine wp_gen (fun W => StAt w W A n c ss ∧ Blk W (w.heap.size + 1) THd (hdC 0 D.zero)) ⟨HS0.out.grow hg0, Blk.new1 _ _ _ _⟩ ?_
  clear HS0 hg0
  intro w1 h1
  have H1 := Lib.hid h1
  clear h1
  have hr := Lib.hid (fun W (hW : StAt w W A n c ss) => sroot_c A n c ss W hn HM.out hW.pla hW.sl)
  have bh := Lib.hid (fun y W => build_head n y W)
  generalize hy : rootE noneE (digsE ss) = y at *
  have Hy := Lib.hid hy
  clear hy
  refine wp_region_tail 6 (fun W => StAt w W A n c ss ∧ Blk W (w.heap.size + 1) THd (hdC 0 D.zero)) (by kernel_rfl) (by kernel_rfl) ⟨H1.out.1.grow (Grow.refl _).drew, H1.out.2.drew⟩ ?_
  simp only [List.take_succ_cons, List.take_zero]
  (refine quiet_ex rfl ?_; apply Exists.intro; refine ⟨fun W hW => ?_, ?_⟩)
  · go_simp; try with_reducible rfl
  simp only [Act.put, List.setIfInBounds_toArray, List.set_cons_zero, List.set_cons_succ]
  (refine quiet_ex rfl ?_; apply Exists.intro; refine ⟨fun W hW => ?_, ?_⟩)
  · have c := hW.1.box.cell 0; go_simp; try with_reducible rfl
  simp only [Act.put, List.setIfInBounds_toArray, List.set_cons_zero, List.set_cons_succ]
  (refine quiet_ex rfl ?_; apply Exists.intro; refine ⟨fun W hW => ?_, ?_⟩)
  · go_simp; try with_reducible rfl
  simp only [Act.put, List.setIfInBounds_toArray, List.set_cons_zero, List.set_cons_succ]
  refine quiet_load_row rfl TSt (.tmp 1) rfl w.heap.size rfl _ #[.slice A n c] (0, 0) _ (fun W hW => hW.1.box) Tryd.underlying24 rfl (st_row A n c) ?_
  simp only [Act.put, List.setIfInBounds_toArray, List.set_cons_zero, List.set_cons_succ]
  (refine quiet_at rfl ⟨.agg (us y.1), fun W hW => ?_, ?_⟩)
  · go_simp; exact (hr.out _ hW.1).mono (fun e w' h => ⟨h.1, hW.1.grow h.2, hW.2.grow h.2⟩)
  simp only [Act.put, List.setIfInBounds_toArray, List.set_cons_zero, List.set_cons_succ]
  refine quiet_build rfl THd #[(0, .tmp 5), (1, .tmp 7)] rfl [(0, .int .i64 n), (1, .agg (us y.1))] (by simp only [List.map_toArray, List.map_cons, List.map_nil]; rfl) (.agg (hdC n y)) (fun W => bh.out y W) ?_
  simp only [Act.put, List.setIfInBounds_toArray, List.set_cons_zero, List.set_cons_succ]
  refine wpQuiet_nil ?_
  intro w2 h2
  have hR := h2.2
  have H2 := Lib.hid h2.1
  clear h2
  simp only [List.drop_succ_cons, List.drop_zero]
  have sy := hdC_size n y
  have oy := hdC_one n y
  generalize hz : hdC n y = z at *
  have Hz := Lib.hid hz
  clear hz
  go_wp2_with (refine wpList_store_row rfl THd (.tmp 2) (.tmp 8) rfl (w.heap.size + 1) z rfl rfl _ _ hR (by rw [sy]; kernel_rfl) (by rw [sy]; exact hdC_size _ _) oy ?_)
  refine bodyPost_ret (results_cell_row (p := 2) (ty := THd) rfl _ _ (w.heap.size + 1) _ z (0, 0) _ rfl (setRow_heap _ _ _ _ _ _ hR) Tryd.underlying29 rfl (by rw [sy]; kernel_rfl)) rfl ⟨by rw [Hy.out, Hz.out], ?_⟩
  exact H2.out.gro.setRow (by omega) _
/-- What a head tells of a store: the number of the error. -/
def lostE (ss : List ByteArray) (k : Int) (r : D) : Int :=
  if k < 0 then 1 else if (ss.length : Int) < k then 6 else if rootE noneE (digsE (ss.take k.toNat)) = r then 0 else 8
structure LoAt (w0 w : World) (A : Option Addr) (n c : Nat) (ss : List ByteArray) (k : Int) (r : D) : Prop where
  st : StAt w0 w A n c ss
  hd : Blk w (w0.heap.size + 1) THd (hdC k r)
theorem LoAt.grow {w0 w w' : World} {A : Option Addr} {n c : Nat} {ss : List ByteArray} {k : Int} {r : D} (h : LoAt w0 w A n c ss k r) (hg : Grow w w') : LoAt w0 w' A n c ss k r := ⟨h.st.grow hg, h.hd.grow hg⟩
theorem LoAt.new {w : World} {A : Option Addr} {n c : Nat} {ss : List ByteArray} {k : Int} {r : D} (hs : SlS w A n c ss) (hP : Places w) : LoAt w ((w.alloc (.cells #[.slice A n c] TSt)).alloc (.cells (hdC k r) THd)) A n c ss k r :=
  ⟨(StAt.new hs hP).grow ((Grow.refl _).alloc (Nat.le_refl _) _), Blk.new1 _ _ _ _⟩
set_option maxRecDepth 100000 in
set_option maxHeartbeats 4000000 in
theorem lost_c (A : Option Addr) (n c : Nat) (ss : List ByteArray) (k : Int) (r : D) (w : World) (hk1 : -9223372036854775808 ≤ k) (hk2 : k ≤ 9223372036854775807) (hn : n ≤ 1000000) (hsm : small ss) (hP : Places w) (hs : SlS w A n c ss) :
    Calls Tryd.prog 23 #[.agg #[.slice A n c], .agg (hdC k r)] w fun e w' => e = .returned (.int .i64 (lostE ss k r)) ∧ Grow w w' := by
  have HS0 := Lib.hid (LoAt.new hs hP : LoAt w _ A n c ss k r)
  have HM := Lib.hid hsm
  have HL := Lib.hid hs.2.2.1
  clear hs hP hsm
  by_cases hneg : k < 0
  · have hlo : lostE ss k r = 1 := by unfold lostE; rw [if_pos hneg]
    have Hlo := Lib.hid hlo
    have t1 : decide (k < 0) = true := decide_eq_true hneg
    clear hlo hneg
    go_enter Tryd.func23, Tryd.ntmps23
    go_upto_region 1 with (fail)
    refine wp_gen (fun W => LoAt w W A n c ss k r) HS0.out ?_
    clear HS0
    intro w1 h1
    have c1 := (h1.hd.cell 0).trans (hdC_get0 k r)
    have H1 := Lib.hid h1
    clear h1
    go_wp2_with fail
    go_ret
    exact ⟨by rw [Hlo.out]; rfl, H1.out.st.gro⟩
  · obtain ⟨kn, rfl⟩ : ∃ kn : Nat, k = (kn : Int) := ⟨k.toNat, by omega⟩
    have t1 : decide ((kn : Int) < 0) = false := by simp
    by_cases hgt : n < kn
    · have hlo : lostE ss kn r = 6 := by unfold lostE; rw [if_neg (by omega), if_pos (by rw [HL.out]; omega)]
      have Hlo := Lib.hid hlo
      have t2 : decide (n < kn) = true := by simpa using hgt
      have t3 : decide ((n : Int) < (kn : Int)) = true := by simpa using hgt
      clear hlo hneg hgt
      go_enter Tryd.func23, Tryd.ntmps23
      go_upto_region 1 with (fail)
      refine wp_gen (fun W => LoAt w W A n c ss kn r) HS0.out ?_
      clear HS0
      intro w1 h1
      have c1 := (h1.hd.cell 0).trans (hdC_get0 kn r)
      have c2 := h1.st.box.cell 0
      have H1 := Lib.hid h1
      clear h1
      go_wp2_with fail
      go_ret
      exact ⟨by rw [Hlo.out]; rfl, H1.out.st.gro⟩
    · have hlo : lostE ss kn r = if rootE noneE (digsE (ss.take kn)) = r then 0 else 8 := by unfold lostE; rw [if_neg (by omega), if_neg (by rw [HL.out]; omega)]; rfl
      have Hlo := Lib.hid hlo
      have t2 : decide (n < kn) = false := by simpa using hgt
      have t3 : decide ((n : Int) < (kn : Int)) = false := by simpa using hgt
      have hcc := (HS0.out).st.sl.1
      have hkn : kn ≤ n := by omega
      have hkc : kn ≤ c := by omega
      clear hlo hneg hgt
      go_enter Tryd.func23, Tryd.ntmps23
      go_upto_region 1 with (fail)
      refine wp_gen (fun W => LoAt w W A n c ss kn r) HS0.out ?_
      clear HS0
      intro w1 h1
      have c1 := (h1.hd.cell 0).trans (hdC_get0 kn r)
      have c2 := h1.st.box.cell 0
      have H1 := Lib.hid h1
      clear h1
      go_upto_region 6 with (fail)
      obtain ⟨b5, hb5⟩ : ∃ b, b = w1.heap.size := ⟨_, rfl⟩
      have hga : Grow w1 (w1.alloc (.cells #[.slice A kn kn] TSt)) := (Grow.refl _).alloc (Nat.le_refl _) _
      refine wp_gen (fun W => LoAt w W A n c ss kn r ∧ Blk W b5 TSt #[.slice A kn kn]) ⟨H1.out.grow hga, hb5 ▸ Blk.new _ _ _⟩ ?_
      rw [← hb5]
      clear hga hb5 c1 c2
      intro w2 h2
      have H2 := Lib.hid h2
      clear h2
      have hmk : kn ≤ maxLen := by have := H1.out.st.sl.2.1; omega
      have hr := Lib.hid (fun W (hW : LoAt w W A n c ss kn r) => shead_c A kn kn (ss.take kn) W (by omega) (fun s hs => HM.out s (List.mem_of_mem_take hs)) hW.st.pla (hW.st.sl.take kn kn hkn (Nat.le_refl _) hmk))
      have hh := Lib.hid (fun y W => eqin_head kn kn y r W)
      generalize rootE noneE (digsE (ss.take kn)) = y at *
      obtain ⟨bb, hbb⟩ : ∃ bb, bb = decide (y = r) := ⟨_, rfl⟩
      have Hbb := Lib.hid hbb
      have hh2 := hh.out y
      rw [← hbb, show ((kn : Int) == (kn : Int)) = true by simp, Bool.true_and] at hh2
      clear hbb hmk t2 t3 hkn hkc hcc hn
      refine wp_region_all (fun W => LoAt w W A n c ss kn r ∧ Blk W b5 TSt #[.slice A kn kn]) (by kernel_rfl) (by kernel_rfl) ⟨H2.out.1.grow (Grow.refl _).drew, H2.out.2.drew⟩ ?_
      refine quiet_load_row rfl TSt (.tmp 5) rfl b5 rfl _ #[.slice A kn kn] (0, 0) _ (fun W hW => hW.2) Tryd.underlying24 rfl (st_row A kn kn) ?_
      simp only [Act.put, List.setIfInBounds_toArray, List.set_cons_zero, List.set_cons_succ]
      (refine quiet_at rfl ⟨.agg (hdC kn y), fun W hW => ?_, ?_⟩)
      · go_simp; exact (hr.out _ hW.1).mono (fun e w' h => ⟨h.1, hW.1.grow h.2, hW.2.grow h.2⟩)
      simp only [Act.put, List.setIfInBounds_toArray, List.set_cons_zero, List.set_cons_succ]
      refine quiet_load_row rfl THd (.tmp 3) rfl (w.heap.size + 1) rfl _ (hdC kn r) (0, 0) _ (fun W hW => hW.1.hd) Tryd.underlying29 rfl (hd_row kn r) ?_
      simp only [Act.put, List.setIfInBounds_toArray, List.set_cons_zero, List.set_cons_succ]
      (refine quiet_ex rfl ?_; apply Exists.intro; refine ⟨fun W hW => ?_, ?_⟩)
      · have cc := hh2 W; go_simp; try with_reducible rfl
      simp only [Act.put, List.setIfInBounds_toArray, List.set_cons_zero, List.set_cons_succ]
      refine wpQuiet_nil ?_
      intro w3 h3
      have H3 := Lib.hid h3.1.st.gro
      clear h3
      cases bb
      · have hf := of_decide_eq_false Hbb.out.symm
        have Hf := Lib.hid (show lostE ss kn r = 8 by rw [Hlo.out, if_neg hf])
        clear hf hh2
        go_wp2_with fail
        go_ret
        exact ⟨by rw [Hf.out]; rfl, H3.out⟩
      · have hf := of_decide_eq_true Hbb.out.symm
        have Hf := Lib.hid (show lostE ss kn r = 0 by rw [Hlo.out, if_pos hf])
        clear hf hh2
        go_wp2_with fail
        go_ret
        exact ⟨by rw [Hf.out]; rfl, H3.out⟩
end Go.Proofs.YtamllmoakgnjoaaDoor
