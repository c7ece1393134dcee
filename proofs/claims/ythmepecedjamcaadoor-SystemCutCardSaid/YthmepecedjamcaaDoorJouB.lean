import Derived.Test.YthmepecedjamcaaDoorJouS
import Derived.Shelf.Strings.Builder2
/- The builder's contracts at this program. -/
namespace Go.Proofs.YthmepecedjamcaaDoor
open Go.RowKit
set_option linter.unnecessarySimpa false
/-- Where the shelf's numbers of strings.Builder's functions and types lie in this program. -/
def jr : Go.Shelf.Ren where
  f
    | 165 => 38
    | 166 => 40
    | 169 => 42
    | 240 => 55
    | 241 => 56
    | 276 => 67
    | 277 => 68
    | x => x
  t
    | 0 => 0
    | 3 => 3
    | 4 => 4
    | 5 => 5
    | 9 => 9
    | 20 => 20
    | 37 => 51
    | 70 => 64
    | 72 => 66
    | 75 => 71
    | 80 => 75
    | 127 => 88
    | 164 => 99
    | x => x
  g x := x
theorem jl165 : Lays.n165 Tryd.prog jr := by
  constructor <;> (first | kernel_rfl | (intro w; kernel_rfl))
theorem jl166 : Lays.n166 Tryd.prog jr := by
  constructor <;> (first | kernel_rfl | (intro w; kernel_rfl))
theorem jl169 : Lays.n169 Tryd.prog jr := by
  constructor <;> (first | kernel_rfl | (intro w; kernel_rfl))
theorem jx72 : Builder.X72 Tryd.prog jr := by
  constructor <;> (first | kernel_rfl | decide)
theorem jx : Builder.Extra Tryd.prog jr where
  toX72 := jx72
  t5 := by kernel_rfl
  a5 := by intro w; kernel_rfl
  z5 := by intro w; kernel_rfl
  v5 := by intro w; kernel_rfl
  infoByte := by kernel_rfl
  cellsByte := by kernel_rfl
  sizeByte := by kernel_rfl
  neB5 := by decide
def Bl (B b : Nat) (l : List UInt8) (w : World) : Prop := Lib.BuilderAt 66 5 B b (.pointer (some ⟨b, 0, none⟩)) (Lib.byteCells l) w
theorem Bl.grow {B b : Nat} {l : List UInt8} {w w' : World} (h : Bl B b l w) (hg : Grow w w') : Bl B b l w' := by
  have hlt := Lib.BuilderAt.lt h
  obtain ⟨hB, v, hb, ho, hne⟩ := h
  exact ⟨hB, v, (hg.block b hlt).trans hb, ownsRow_grow ho hg, hne⟩
theorem bld_grow (B b n : Nat) (w : World) (hB : B ≤ b) (hbk : w.heap[b]? = some (.cells #[.pointer none, .slice none 0 0] 66 (0, 0))) (hBw : B ≤ w.heap.size) (hn : n ≤ 281474976710656) :
    Calls Tryd.prog 38 #[.pointer (some ⟨b, 0, none⟩), .int .i64 n] w fun e w' => e = .returned (.tuple #[]) ∧ Bl B b [] w' ∧ Below B w w' := Any.Builder_Grow_fresh jl165 jx B b n w hB hbk hBw hn
theorem bld_write (B b : Nat) (l r : List UInt8) (w : World) (h : Bl B b l w) (hlen : l.length + r.length ≤ 140737488355328) (hBw : B ≤ w.heap.size) :
    Calls Tryd.prog 40 #[.pointer (some ⟨b, 0, none⟩), .string (bs r)] w fun e w' => e = .returned (.tuple #[.int .i64 (r.length : Nat), .nilIface]) ∧ Bl B b (l ++ r) w' ∧ Below B w w' := by
  refine (Any.Builder_WriteString jl166 jx B b (Lib.byteCells l) (bs r) w (.inr h) (by rw [bs_size, Lib.byteCells_length]; exact hlen) hBw).mono ?_
  rintro e w' ⟨rfl, h1, h2⟩
  rw [bs_size]
  refine ⟨rfl, ?_, h2⟩
  have : Lib.byteCells l ++ Lib.strCells (bs r) = Lib.byteCells (l ++ r) := by show _ ++ Lib.byteCells r = _; simp [Lib.byteCells]
  rw [this] at h1
  exact h1
theorem bld_string (B b : Nat) (l : List UInt8) (w : World) (h : Bl B b l w) (hBw : B ≤ w.heap.size) :
    Calls Tryd.prog 42 #[.pointer (some ⟨b, 0, none⟩)] w fun e w' => e = .returned (.string (bs l)) ∧ Below B w w' := Any.Builder_String_any jl169 jx B b l w (.inr h) hBw
/-- A contract that gives a plain value, as a call's. -/
theorem calls_v {f : FuncId} {ars : List PV} {x : Value} {vs : Array Value} {w : World} (h : Spec (Ctx.mk Tryd.prog globX (0 + 1) Places) f ars [] (.v x) []) (hP : Places w) (ha : RepC (allOf w) ars vs) : Calls Tryd.prog f vs w fun e w' => e = .returned x ∧ Grow w w' := by
  refine (h w (fun g _ => g < w.heap.size) (fun _ => none) vs hP hP.1 (fun g => rep_glob w hP g) ha (fun j hj => by simp at hj) (fun _ _ h => h) (fun _ _ _ h => (by cases h)) (fun _ _ h => (by cases h)) (fun _ _ _ h => (by cases h))).mono ?_
  rintro e w' ⟨x, F', rfl, h1, h2, h3, h4, h5, -, -, -, hr, -⟩
  exact ⟨by rw [hr.v_eq], h1, h2, h3, h4, fun k hk => h5 k hk fun b hb => (by cases hb)⟩
theorem mark_c (d : D) (w : World) (hP : Places w) : Calls Tryd.prog 41 #[.agg (us d.1)] w fun e w' => e = .returned (.string (bs (bytesE d.1))) ∧ Grow w w' := calls_v (s_mark d) hP (args1 (rep_D _ d))
theorem run_buildSlice_u {P : Program} (t e : TypeId) (bytes : Nat) (ht : P.underlying t = some (.slice e)) (hinfo : (P.info? e).map (fun i => (i.zero, i.size, i.bytes)) = some (some (.int .u32 0), 1, bytes))
    (x : UInt32) (w : World) : (Instr.buildSlice t 1 #[(0, u x)]).run P w = .ok (.slice (some ⟨w.heap.size, 0, none⟩) 1 1) (w.alloc (.cells (us [x]) e)) := by
  obtain ⟨i, hi, hzz, hsz, rfl⟩ := info_parts hinfo
  simp [Instr.buildSlice, run_underlying ht, sizeOf, typeInfo, hi, hsz, zeroValue, hzz, Value.cells, us, u, Instr.fill, go_sem]
theorem wpList_buildSlice_u {P : Program} {ops : Array Oper} {rest : List Oper} {o : Oper} {a : Act} {Q : Exit → Act → World → Prop} {w : World} (hgd : o.guard = none) (t e : TypeId) (x : Operand) (ho : o.op = .buildSlice t 1 #[(0, x)]) (bytes : Nat) (ht : P.underlying t = some (.slice e)) (hinfo : (P.info? e).map (fun i => (i.zero, i.size, i.bytes)) = some (some (.int .u32 0), 1, bytes))
    (d : UInt32) (hx : a.eval x = u d) (h : wpList P ops Q rest (a.put o.dst (.slice (some ⟨w.heap.size, 0, none⟩) 1 1)) (w.alloc (.cells (us [d]) e))) : wpList P ops Q (o :: rest) a w :=
  wpList_plain hgd fun _ hK => by
    unfold Oper.wp execOp
    simp only [ho, List.map_toArray, List.map_cons, List.map_nil, hx, run_buildSlice_u t e bytes ht hinfo d, Sem.run_bind, Result.andThen_ok]
    exact hK _ _ h
theorem alloc_at (w : World) (o : Obj) : (w.alloc o).heap[w.heap.size]? = some o := by unfold World.alloc; exact Array.getElem?_push_size
theorem w64 {x : Int} (h1 : -9223372036854775808 ≤ x) (h2 : x < 9223372036854775808) : RowKit.wrap64 x = x := by unfold RowKit.wrap64; omega
structure PutAt (w0 w : World) (b : Nat) (A : Option Addr) (n c : Nat) (ss : List ByteArray) (out : List UInt8) : Prop where
  bld : Bl w0.heap.size b out w
  sl : SlS w A n c ss
  gro : Grow w0 w
  pla : Places w
theorem PutAt.grow {w0 w w' : World} {b : Nat} {A : Option Addr} {n c : Nat} {ss : List ByteArray} {out : List UInt8} (h : PutAt w0 w b A n c ss out) (hg : Grow w w') : PutAt w0 w' b A n c ss out := ⟨h.bld.grow hg, h.sl.grow hg, h.gro.tr hg, h.pla.grow hg⟩
set_option maxRecDepth 100000 in
set_option maxHeartbeats 2000000 in
theorem put_c (A : Option Addr) (n c : Nat) (l : List (List UInt8)) (w : World) (hl : n ≤ 1000) (hp : (putB l).length ≤ 900000) (hP : Places w) (hs : SlS w A n c (bsL l)) :
    Calls Tryd.prog 19 #[.slice A n c] w fun e w' => e = .returned (.tuple #[.string (bs (putB l)), .int .i64 0]) ∧ Grow w w' := by
  have HS := Lib.hid hs
  have HP := Lib.hid hP
  have Hp := Lib.hid hp
  have HL := Lib.hid (show l.length = n by rw [← bsL_len]; exact hs.2.2.1)
  clear hs hP hp
  have hn1 : decide ((n : Int) > 1000) = false := by simp; omega
  go_enter Tryd.func19, Tryd.ntmps19
  go_wp2_with fail
  go_loopw [4, 16] (fun z i wr => ∃ j : Nat, j ≤ n ∧ z = .int .i64 (((putB (l.take j)).length : Nat) : Int) ∧ i = .int .i64 j ∧ w = wr) (fun _ i _ => n - (intOf i).toNat)
  case atStart => exact ⟨0, by omega, rfl, rfl, rfl⟩
  case round =>
    obtain ⟨j, hj, rfl, rfl, rfl⟩ := hrel
    by_cases hlt : j < n
    · have hj1 : decide ((j : Int) < (n : Int)) = true := by simp; omega
      have b1 : (0 : Int) ≤ j := by omega
      have b2 : (j : Int) < n := by omega
      obtain ⟨g, o, rfl, -, -⟩ := HS.out.2.2.2 (by omega)
      have hcc := Lib.hid HS.out.1
      have hcell := HS.out.at j hlt
      rw [bsL_at (by rw [HL.out]; exact hlt)] at hcell
      have hsucc := congrArg List.length (putB_snoc (l := l) (i := j) (by rw [HL.out]; exact hlt))
      rw [List.length_append, List.length_append, recH_len, List.length_append, recS_len] at hsucc
      have hle := putB_part l (j + 1)
      have hp := Hp.out
      generalize l.getD j [] = r at *
      have hw1 : RowKit.wrap64 (20 + ((bs r).size : Int)) = ((20 + r.length : Nat) : Int) := by rw [bs_size]; rw [w64 (by omega) (by omega)]; omega
      have hw2 : RowKit.wrap64 (((putB (l.take j)).length : Int) + ((20 + r.length : Nat) : Int)) = (((putB (l.take (j + 1))).length : Nat) : Int) := by rw [w64 (by omega) (by omega)]; omega
      have Hw1 := Lib.hid hw1
      have Hw2 := Lib.hid hw2
      clear hw1 hw2 hsucc hle hp
      go_wp2_with fail
      go_roundw
      case rel =>
        refine ⟨j + 1, by omega, ?_, by simp⟩
        have e1 := Hw1.out
        have e2 := Hw2.out
        rw [← e1] at e2
        rw [← e2]
      case measure => simp [intOf]; omega
    · have e : j = n := by omega
      subst e
      have hj1 : decide ((j : Int) < (j : Int)) = false := by simp
      rw [List.take_of_length_le (by rw [HL.out]; exact Nat.le_refl _)]
      go_wp2_with fail
      have h0 : Grow w (w.alloc (.cells #[.pointer none, .slice none 0 0] 66)) := (Grow.refl _).alloc (Nat.le_refl _) _
      refine (bld_grow w.heap.size w.heap.size (putB l).length _ (Nat.le_refl _) (alloc_at _ _) h0.size (by have := Hp.out; omega)).mono ?_
      rintro e w1 ⟨rfl, h1, h2⟩
      have hg1 : Grow w w1 := Below.trans h0 h2
      have H1 := Lib.hid (PutAt.mk h1 (HS.out.grow hg1) hg1 (HP.out.grow hg1))
      clear h0 h1 h2 hg1
      generalize w.heap.size = b at *
      go_wp2_with fail
      go_loopw [30] (fun i wq => ∃ k : Nat, k ≤ j ∧ i = .int .i64 k ∧ PutAt w wq b A j c (bsL l) (putB (l.take k))) (fun i _ => j - (intOf i).toNat)
      case atStart => exact ⟨0, by omega, rfl, by rw [List.take_zero]; exact H1.out⟩
      case round =>
        obtain ⟨k, hk, rfl, hN⟩ := hrel
        have HN := Lib.hid hN
        clear hN H1
        by_cases hlk : k < j
        · have hj1 : decide ((k : Int) < (j : Int)) = true := by simp; omega
          have b1 : (0 : Int) ≤ k := by omega
          have b2 : (k : Int) < j := by omega
          obtain ⟨g, o, rfl, -, -⟩ := HN.out.sl.2.2.2 (by omega)
          have hcc := Lib.hid HN.out.sl.1
          have hcell := HN.out.sl.at k hlk
          rw [bsL_at (by rw [HL.out]; exact hlk)] at hcell
          have Hsn := Lib.hid (putB_snoc (l := l) (i := k) (by rw [HL.out]; exact hlk))
          have hmem := putB_mem (getD_mem (l := l) (i := k) (by rw [HL.out]; exact hlk))
          have hpp := putB_part l k
          have hp := Hp.out
          have Hr := Lib.hid (show (putB (l.take k)).length ≤ 900000 by omega)
          have Hr2 := Lib.hid (show (l.getD k []).length ≤ 900000 by omega)
          clear hmem hpp hp
          generalize l.getD k [] = r at *
          have hw : IntKind.u32.wrap (((bs r).size : Nat) : Int) = ((UInt32.ofNat r.length).toNat : Int) := by
            have := Hr2.out
            rw [bs_size, wrapu32 (by omega), UInt32.toNat_ofNat', Nat.mod_eq_of_lt (by omega)]
          go_wp2_with fail
          have ha : (Obj.cells #[Value.int IntKind.u32 ((r.length : Int) % 4294967296)] 37) = Obj.cells (us [UInt32.ofNat r.length]) 37 := by
            rw [bs_size] at hw
            show Obj.cells #[Value.int IntKind.u32 (IntKind.u32.wrap ((r.length : Nat) : Int))] _ = _
            rw [hw]; rfl
          rw [ha]
          have hg1 : Grow wr (wr.alloc (.cells (us [UInt32.ofNat r.length]) 37)) := (Grow.refl _).alloc (Nat.le_refl _) _
          refine (bytes_c [UInt32.ofNat r.length] _ 1 1 _ (by omega) (SlU.of_blk (Blk.new _ _ _) rfl (by decide))).mono ?_
          rintro e w2 ⟨rfl, hg2⟩
          have H2 := Lib.hid (HN.out.grow (hg1.tr hg2))
          clear hg1 hg2 hw ha hcell
          have hrh : (ByteArray.mk (bytesE [UInt32.ofNat r.length]).toArray) = bs (recH r.length) := rfl
          rw [hrh]
          clear hrh
          have l1 := recH_len r.length
          have l2 := recS_len r
          have hof : digE (bs (recH r.length) ++ bs r) = digE ⟨(recF r).toArray⟩ := by rw [bs_app]; rfl
          go_wp2_with fail
          generalize hR : recH r.length = rh at *
          have hr1 := Hr.out
          have hr2 := Hr2.out
          have HB := Lib.hid (show bytesE (ofE (rh ++ r)).1 = recS r by rw [← hR]; rfl)
          refine (bld_write w.heap.size b _ rh _ H2.out.bld (by omega) H2.out.gro.size).mono ?_
          rintro e w3 ⟨rfl, h3, k3⟩
          have hg3 : Grow w w3 := Below.trans H2.out.gro k3
          have H3 := Lib.hid (PutAt.mk h3 (HS.out.grow hg3) hg3 (HP.out.grow hg3))
          clear h3 k3 hg3 H2 hr1 hr2 l2
          have hcat : (bs rh).size + (bs r).size ≤ 9223372036854775807 := by rw [bs_size, bs_size]; have := Hr2.out; omega
          have hcat2 : ¬ (9223372036854775807 < (bs rh).size + (bs r).size) := by omega
          go_wp2_with fail
          rw [bs_app]
          clear hcat hcat2
          refine (of_c (rh ++ r) _ (by rw [List.length_append]; have := Hr2.out; omega) H3.out.pla).mono ?_
          rintro e w4 ⟨rfl, hg4⟩
          have H4 := Lib.hid (H3.out.grow hg4)
          clear hg4 H3
          generalize hd : ofE (rh ++ r) = d at *
          go_wp2_with fail
          refine (mark_c d _ H4.out.pla).mono ?_
          rintro e w5 ⟨rfl, hg5⟩
          have H5 := Lib.hid (H4.out.grow hg5)
          clear hg5 H4
          rw [HB.out]
          have l2 := Lib.hid (recS_len r)
          have l1 := Lib.hid l1
          generalize recS r = rs at *
          go_wp2_with fail
          refine (bld_write w.heap.size b _ rs _ H5.out.bld (by rw [List.length_append]; have := Hr.out; have := l1.out; have := l2.out; omega) H5.out.gro.size).mono ?_
          rintro e w6 ⟨rfl, h3, k3⟩
          have hg3 : Grow w w6 := Below.trans H5.out.gro k3
          have H6 := Lib.hid (PutAt.mk h3 (HS.out.grow hg3) hg3 (HP.out.grow hg3))
          clear h3 k3 hg3 H5
          go_wp2_with fail
          refine (bld_write w.heap.size b _ r _ H6.out.bld (by rw [List.length_append, List.length_append]; have := Hr.out; have := Hr2.out; have := l1.out; have := l2.out; omega) H6.out.gro.size).mono ?_
          rintro e w7 ⟨rfl, h3, k3⟩
          have hg3 : Grow w w7 := Below.trans H6.out.gro k3
          have H7 := Lib.hid (PutAt.mk h3 (HS.out.grow hg3) hg3 (HP.out.grow hg3))
          clear h3 k3 hg3 H6
          go_wp2_with fail
          go_roundw
          case rel =>
            refine ⟨k + 1, by omega, by simp, ?_⟩
            rw [Hsn.out]
            have := H7.out
            rw [List.append_assoc, List.append_assoc] at this
            exact this
          case measure => simp [intOf]; omega
        · have e : k = j := by omega
          subst e
          rw [List.take_of_length_le (by rw [HL.out]; exact Nat.le_refl _)] at HN
          have hj1 : decide ((k : Int) < (k : Int)) = false := by simp
          go_wp2_with fail
          refine (bld_string w.heap.size b (putB l) _ HN.out.bld HN.out.gro.size).mono ?_
          rintro e w2 ⟨rfl, h2⟩
          go_wp2_with fail
          go_ret2
          exact ⟨rfl, Below.trans HN.out.gro h2⟩
theorem rep_pair (E : Env) (x y : Value) : Rep E (.tup [.v x, .v y]) (.tuple #[x, y]) := .tup _ _ rfl fun i hi => by
  have hi : i < 2 := hi
  match i, hi with
  | 0, _ => exact .v _
  | 1, _ => exact .v _
theorem s_put (l : List (List UInt8)) (hl : l.length ≤ 1000) (hp : (putB l).length ≤ 900000) : Spec (Ctx.mk Tryd.prog globX (0 + 1) Places) 19 [.sl .any (ssP (bsL l))] [] (.tup [.v (.string (bs (putB l))), .v (.int .i64 0)]) [] :=
  spec_val rfl (fun E => rep_pair E _ _) fun E vs hP hF ha => by
    obtain ⟨x, rfl, r⟩ := repC1 ha
    obtain ⟨A, c, rfl, h⟩ := rep_ss hF r
    exact put_c A _ c l E.w (by rw [bsL_len]; exact hl) hp hP h
set_option maxRecDepth 100000 in
theorem s_put_no (l : List ByteArray) (hl : ¬ l.length ≤ 1000) : Spec (Ctx.mk Tryd.prog globX (0 + 1) Places) 19 [.sl .any (ssP l)] [] (.tup [.v (.string ⟨#[]⟩), .v (.int .i64 2)]) [] := by
  have g0 : decide (((ssP l).length : Int) > 1000) = true := decide_eq_true (by rw [ssP_len]; omega)
  refine spec_of_bodyL CX_mixed CX_gpk Tryd.func19 rfl 51 0 rfl rfl rfl rfl ?_
  refine go_ ?_
  refine ev_ ?_
  exact .mk (by rfl) trivial
end Go.Proofs.YthmepecedjamcaaDoor
