/- A head as a value: built, its parts, two heads compared. -/
import Derived.Test.YtamllmoakgnjoaaDoorGen
import Derived.Laws.Tables
namespace Go.Proofs.YtamllmoakgnjoaaDoor
open Go.RowKit
abbrev THd := 29
/-- The cells of a head. -/
def hdC (k : Int) (d : D) : Array Value := (Value.int .i64 k :: d.1.map u).toArray
theorem hdC_size (k : Int) (d : D) : (hdC k d).size = 5 := by simp [hdC, d.2]
theorem hdC_one (k : Int) (d : D) : (hdC k d).all (·.oneCell') = true := by
  rw [Array.all_eq_true_iff_forall_mem]
  simp [hdC, Value.oneCell']
theorem hdC_root (k : Int) (d : D) : (hdC k d).extract 1 5 = us d.1 := by
  obtain ⟨l, hl⟩ := d
  match l, hl with
  | [x0, x1, x2, x3], _ => rfl
theorem hdC_get0 (k : Int) (d : D) : (hdC k d)[0]? = some (.int .i64 k) := rfl
theorem hdC_get (k : Int) (d : D) (j : Nat) (hj : j < 4) : (hdC k d)[1 + j]? = some (u (d.1.getD j 0)) := by
  have := D.get d j hj
  rw [Nat.add_comm]
  simpa [hdC] using this
theorem build_head (k : Int) (d : D) (w : World) : (Instr.build THd #[(0, .int .i64 k), (1, .agg (us d.1))]).run Tryd.prog w = .ok (.agg (hdC k d)) w := by
  obtain ⟨l, hl⟩ := d
  match l, hl with
  | [x0, x1, x2, x3], _ => exact run_build w THd _ _ (by kernel_rfl)
theorem eqin_head (k k' : Int) (r r' : D) (w : World) : (Op.equalIn 10000 THd (.agg (hdC k r)) (.agg (hdC k' r'))).run Tryd.prog w = .ok ((k == k') && decide (r = r')) w := by
  have h1 := run_equalIn_us w 9997 27 25 4 Tryd.underlying27 Tryd.underlying25 sizeOf_u32 r.1 r'.1 r.2 r'.2
  have h2 : (r.1 == r'.1) = decide (r = r') := by
    rw [Bool.eq_iff_iff]; simp [Subtype.ext_iff]
  rw [h2] at h1
  rw [run_equalIn_struct w 9999 THd _ _ (by kernel_rfl) (by kernel_rfl)]
  have p0 : ∀ w, (isAgg 3).run Tryd.prog w = .ok false w := fun _ => by kernel_rfl
  have p1 : ∀ w, (isAgg 27).run Tryd.prog w = .ok true w := fun _ => by kernel_rfl
  have p2 : ∀ w, (sizeOf 27).run Tryd.prog w = .ok 4 w := fun _ => by kernel_rfl
  have hi : ∀ (a b : Int) w, (Op.equalIn 9999 3 (.int .i64 a) (.int .i64 b)).run Tryd.prog w = .ok (a == b) w := fun a b w => run_equalIn_int w 9998 3 .i64 .i64 a b Tryd.underlying3
  simp only [Program.fieldsOf, Tryd.underlying29]
  simp [Op.eqFields, part, p0, p1, p2, hi, hdC_get0, hdC_root, h1]
  by_cases hk : k = k' <;> by_cases hr : r = r' <;> simp [hk, hr]
theorem eqin_D9 (r r' : D) (w : World) : (Op.equalIn 9999 27 (.agg (us r.1)) (.agg (us r'.1))).run Tryd.prog w = .ok (decide (r = r')) w := by
  have h1 := run_equalIn_us w 9997 27 25 4 Tryd.underlying27 Tryd.underlying25 sizeOf_u32 r.1 r'.1 r.2 r'.2
  have h2 : (r.1 == r'.1) = decide (r = r') := by
    rw [Bool.eq_iff_iff]; simp [Subtype.ext_iff]
  rw [h2] at h1
  exact h1
section
variable {P : Program} {ops : Array Oper} {C : World → Prop}
/-- A struct or an array laid out of its parts: a quiet operation. -/
theorem quiet_build {o : Oper} {rest : List Oper} {Q : Act → Prop} {a : Act} (hgd : Region.wanted o (yielded ops a.tmps) = true) (ty : TypeId) (ps : Array (Nat × Operand)) (ho : o.op = .build ty ps) (vs : List (Nat × Value))
    (hv : (ps.map fun x => (x.1, a.eval x.2)) = vs.toArray) (v : Value) (hr : ∀ w, (Instr.build ty vs.toArray).run P w = .ok v w)
    (h : wpQuiet P ops C Q rest (a.put o.dst v)) : wpQuiet P ops C Q (o :: rest) a :=
  quiet_val v hgd (fun w _ => by unfold execOp; simp only [ho, hv, Sem.run_bind, hr, Result.andThen_ok, Sem.run_pure]) h
theorem run_build_op {o : Oper} {a : Act} {w : World} (ty : TypeId) (ps : Array (Nat × Operand)) (ho : o.op = .build ty ps) (vs : List (Nat × Value))
    (hv : (ps.map fun x => (x.1, a.eval x.2)) = vs.toArray) (v : Value) (hr : (Instr.build ty vs.toArray).run P w = .ok v w) : (execOp a.eval o).run P w = .ok (.value v) w := by
  unfold execOp; simp only [ho, hv, Sem.run_bind, hr, Result.andThen_ok, Sem.run_pure]
theorem wpList_build {o : Oper} {rest : List Oper} {Q : Exit → Act → World → Prop} {a : Act} {w : World} (hgd : Region.wanted o (yielded ops a.tmps) = true) (ty : TypeId) (ps : Array (Nat × Operand)) (ho : o.op = .build ty ps) (vs : List (Nat × Value))
    (hv : (ps.map fun x => (x.1, a.eval x.2)) = vs.toArray) (v : Value) (hr : (Instr.build ty vs.toArray).run P w = .ok v w)
    (h : wpList P ops Q rest (a.put o.dst v) w) : wpList P ops Q (o :: rest) a w := by
  unfold wpList
  rw [if_pos hgd]
  refine .inl ?_
  unfold Oper.wp
  rw [run_build_op ty ps ho vs hv v hr]
  exact h
end
end Go.Proofs.YtamllmoakgnjoaaDoor
