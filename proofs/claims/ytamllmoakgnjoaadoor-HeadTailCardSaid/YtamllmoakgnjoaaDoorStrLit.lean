/- A slice literal of one string; no law of the program is named here. -/
import Derived.Test.YtamllmoakgnjoaaDoorFullS
namespace Go.Proofs.YtamllmoakgnjoaaDoor
open Go.RowKit
section
variable {P : Program}
theorem run_buildSlice_S (t e : TypeId) (z : ByteArray) (bytes : Nat) (ht : P.underlying t = some (.slice e)) (hinfo : (P.info? e).map (fun i => (i.zero, i.size, i.bytes)) = some (some (.string z), 1, bytes))
    (s : ByteArray) (w : World) : (Instr.buildSlice t 1 #[(0, .string s)]).run P w = .ok (.slice (some ⟨w.heap.size, 0, none⟩) 1 1) (w.alloc (.cells #[.string s] e)) := by
  obtain ⟨i, hi, hzz, hsz, rfl⟩ := info_parts hinfo
  simp [Instr.buildSlice, run_underlying ht, sizeOf, typeInfo, hi, hsz, zeroValue, hzz, Value.cells, Instr.fill, go_sem]
theorem wpList_buildSlice_S {ops : Array Oper} {rest : List Oper} {o : Oper} {a : Act} {Q : Exit → Act → World → Prop} {w : World} (hgd : o.guard = none) (t e : TypeId) (x : Operand) (ho : o.op = .buildSlice t 1 #[(0, x)]) (z : ByteArray) (bytes : Nat) (ht : P.underlying t = some (.slice e)) (hinfo : (P.info? e).map (fun i => (i.zero, i.size, i.bytes)) = some (some (.string z), 1, bytes))
    (s : ByteArray) (hx : a.eval x = .string s) (h : wpList P ops Q rest (a.put o.dst (.slice (some ⟨w.heap.size, 0, none⟩) 1 1)) (w.alloc (.cells #[.string s] e))) : wpList P ops Q (o :: rest) a w :=
  wpList_plain hgd fun _ hK => by
    unfold Oper.wp execOp
    simp only [ho, List.map_toArray, List.map_cons, List.map_nil, hx, run_buildSlice_S t e z bytes ht hinfo s, Sem.run_bind, Result.andThen_ok]
    exact hK _ _ h
/-- Results: a struct's cell and two slots. -/
theorem results_row_tmp2 {fn : Func} {p q r : Tmp} {ty : TypeId} (h : fn.results = #[.cell p ty, .tmp q, .tmp r]) (tmps : Array Value) (w : World) (g : Nat) (t : TypeId) (cs : Array Value) (fr : Nat × Nat) (d : TypeDesc)
    (hp : tmps.getD p undef = .pointer (some ⟨g, 0, none⟩)) (hg : w.heap[g]? = some (.cells cs t fr))
    (hu : P.underlying ty = some d) (hd : (match d with | .struct _ | .array _ _ => true | _ => false) = true) (hi : (P.info? ty).map (·.size) = some cs.size) :
    (results fn tmps).run P w = .ok (.tuple #[.agg cs, tmps.getD q undef, tmps.getD r undef]) w := by
  have h0 : (results fn tmps).run P w = ((asAddr (tmps.getD p undef)).run P w).andThen fun a w₁ => ((loadVar ty a).run P w₁).andThen fun v w₂ => .ok (.tuple #[v, tmps.getD q undef, tmps.getD r undef]) w₂ := by
    simp only [results, h]
    simp [Sem.run_bind, Result.andThen]
  rw [h0, hp]
  simp [asAddr, run_loadVar_row w g t ty cs fr d hg hu hd hi]
end
end Go.Proofs.YtamllmoakgnjoaaDoor
