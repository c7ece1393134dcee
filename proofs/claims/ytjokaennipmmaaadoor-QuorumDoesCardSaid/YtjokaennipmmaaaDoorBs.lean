/- Slice literals of two and three digests; no program is named here. -/
import Derived.Test.YtjokaennipmmaaaDoorGen
namespace Go.Proofs.YtjokaennipmmaaaDoor
open Go.RowKit
theorem run_buildSlice_D2 {P : Program} (t e : TypeId) (z : Array Value) (bytes : Nat) (hz : z.size = 4) (ht : P.underlying t = some (.slice e)) (hinfo : (P.info? e).map (fun i => (i.zero, i.size, i.bytes)) = some (some (.agg z), 4, bytes))
    (a b : D) (w : World) : (Instr.buildSlice t 2 #[(0, .agg (us a.1)), (1, .agg (us b.1))]).run P w = .ok (.slice (some ⟨w.heap.size, 0, none⟩) 2 2) (w.alloc (.cells (dcells [a, b]).toArray e)) := by
  obtain ⟨i, hi, hzz, hsz, rfl⟩ := info_parts hinfo
  obtain ⟨l, hl⟩ := a
  obtain ⟨m, hm⟩ := b
  match l, hl, m, hm with
  | [x0, x1, x2, x3], hl, [y0, y1, y2, y3], hm =>
    match z, hz with
    | ⟨[z0, z1, z2, z3]⟩, _ =>
      simp [Instr.buildSlice, run_underlying ht, sizeOf, typeInfo, hi, hsz, zeroValue, hzz, Value.cells, us, Instr.fill, go_sem, dcells]
theorem run_buildSlice_D3 {P : Program} (t e : TypeId) (z : Array Value) (bytes : Nat) (hz : z.size = 4) (ht : P.underlying t = some (.slice e)) (hinfo : (P.info? e).map (fun i => (i.zero, i.size, i.bytes)) = some (some (.agg z), 4, bytes))
    (a b c : D) (w : World) : (Instr.buildSlice t 3 #[(0, .agg (us a.1)), (1, .agg (us b.1)), (2, .agg (us c.1))]).run P w = .ok (.slice (some ⟨w.heap.size, 0, none⟩) 3 3) (w.alloc (.cells (dcells [a, b, c]).toArray e)) := by
  obtain ⟨i, hi, hzz, hsz, rfl⟩ := info_parts hinfo
  obtain ⟨l, hl⟩ := a
  obtain ⟨m, hm⟩ := b
  obtain ⟨n, hn⟩ := c
  match l, hl, m, hm, n, hn with
  | [x0, x1, x2, x3], hl, [y0, y1, y2, y3], hm, [v0, v1, v2, v3], hn =>
    match z, hz with
    | ⟨[z0, z1, z2, z3]⟩, _ =>
      simp [Instr.buildSlice, run_underlying ht, sizeOf, typeInfo, hi, hsz, zeroValue, hzz, Value.cells, us, Instr.fill, go_sem, dcells]
section
variable {P : Program} {ops : Array Oper} {rest : List Oper} {o : Oper} {a : Act} {Q : Exit → Act → World → Prop} {w : World}
theorem wpList_buildSlice_D2 (dt : Option Tmp) (hdt : o.dst = dt) (hgd : Region.wanted o (yielded ops a.tmps) = true) (t e : TypeId) (x y : Operand) (ho : o.op = .buildSlice t 2 #[(0, x), (1, y)]) (z : Array Value) (bytes : Nat) (hz : z.size = 4) (ht : P.underlying t = some (.slice e)) (hinfo : (P.info? e).map (fun i => (i.zero, i.size, i.bytes)) = some (some (.agg z), 4, bytes))
    (d1 d2 : D) (hx : a.eval x = .agg (us d1.1)) (hy : a.eval y = .agg (us d2.1)) (h : wpList P ops Q rest (a.put dt (.slice (some ⟨w.heap.size, 0, none⟩) 2 2)) (w.alloc (.cells (dcells [d1, d2]).toArray e))) : wpList P ops Q (o :: rest) a w := by
  subst hdt
  unfold wpList
  rw [if_pos hgd]
  refine .inl ?_
  unfold Oper.wp execOp
  simp only [ho, List.map_toArray, List.map_cons, List.map_nil, hx, hy, run_buildSlice_D2 t e z bytes hz ht hinfo d1 d2, Sem.run_bind, Result.andThen_ok]
  exact h
theorem wpList_buildSlice_D3 (dt : Option Tmp) (hdt : o.dst = dt) (hgd : Region.wanted o (yielded ops a.tmps) = true) (t e : TypeId) (x y y' : Operand) (ho : o.op = .buildSlice t 3 #[(0, x), (1, y), (2, y')]) (z : Array Value) (bytes : Nat) (hz : z.size = 4) (ht : P.underlying t = some (.slice e)) (hinfo : (P.info? e).map (fun i => (i.zero, i.size, i.bytes)) = some (some (.agg z), 4, bytes))
    (d1 d2 d3 : D) (hx : a.eval x = .agg (us d1.1)) (hy : a.eval y = .agg (us d2.1)) (hy' : a.eval y' = .agg (us d3.1)) (h : wpList P ops Q rest (a.put dt (.slice (some ⟨w.heap.size, 0, none⟩) 3 3)) (w.alloc (.cells (dcells [d1, d2, d3]).toArray e))) : wpList P ops Q (o :: rest) a w := by
  subst hdt
  unfold wpList
  rw [if_pos hgd]
  refine .inl ?_
  unfold Oper.wp execOp
  simp only [ho, List.map_toArray, List.map_cons, List.map_nil, hx, hy, hy', run_buildSlice_D3 t e z bytes hz ht hinfo d1 d2 d3, Sem.run_bind, Result.andThen_ok]
  exact h
theorem wpList_buildSlice_D1 (dt : Option Tmp) (hdt : o.dst = dt) (hgd : o.guard = none) (t e : TypeId) (x : Operand) (ho : o.op = .buildSlice t 1 #[(0, x)]) (z : Array Value) (bytes : Nat) (hz : z.size = 4) (ht : P.underlying t = some (.slice e)) (hinfo : (P.info? e).map (fun i => (i.zero, i.size, i.bytes)) = some (some (.agg z), 4, bytes))
    (d : D) (hx : a.eval x = .agg (us d.1)) (h : wpList P ops Q rest (a.put dt (.slice (some ⟨w.heap.size, 0, none⟩) 1 1)) (w.alloc (.cells (d.1.map u).toArray e))) : wpList P ops Q (o :: rest) a w := by
  subst hdt
  exact wpList_buildSlice_D hgd t e x ho z bytes hz ht hinfo d hx h
end
end Go.Proofs.YtjokaennipmmaaaDoor
