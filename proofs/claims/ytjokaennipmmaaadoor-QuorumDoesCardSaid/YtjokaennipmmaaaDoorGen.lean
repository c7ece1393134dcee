/- Closed facts of digests, integers and bytes of this program, and small laws of strings; no function is named here. -/
import Derived.Test.YtjokaennipmmaaaDoorMore
namespace Go.Proofs.YtjokaennipmmaaaDoor
open Go.RowKit
theorem hi_D : (Tryd.prog.info? 30).map (·.size) = some 4 := by kernel_rfl
theorem sizeOf_u32 : ∀ w, (sizeOf 28).run Tryd.prog w = .ok 1 w := fun _ => by kernel_rfl
theorem eql_D (a b : D) (w : World) : (binOp .eql 30 (.agg (us a.1)) (.agg (us b.1))).run Tryd.prog w = .ok (.bool (decide (a = b))) w := run_eql_D w 30 28 Tryd.underlying30 Tryd.underlying28 sizeOf_u32 a b
theorem neq_D (a b : D) (w : World) : (binOp .neq 30 (.agg (us a.1)) (.agg (us b.1))).run Tryd.prog w = .ok (.bool (!decide (a = b))) w := run_neq_D w 30 28 Tryd.underlying30 Tryd.underlying28 sizeOf_u32 a b
theorem eqin_D (a b : D) (w : World) : (Op.equalIn 10000 30 (.agg (us a.1)) (.agg (us b.1))).run Tryd.prog w = .ok (decide (a = b)) w := by
  rw [run_equalIn_us w 9998 30 28 4 Tryd.underlying30 Tryd.underlying28 sizeOf_u32 a.1 b.1 a.2 b.2]
  have : (a.1 == b.1) = decide (a = b) := by
    rw [Bool.eq_iff_iff]; simp [Subtype.ext_iff]
  rw [this]
theorem info_D : (Tryd.prog.info? 30).map (fun i => (i.zero, i.size, i.bytes)) = some (some (.agg #[.int .u32 0, .int .u32 0, .int .u32 0, .int .u32 0]), 4, 16) := by kernel_rfl
theorem us_news (d : D) : ∀ v ∈ d.1.map u, v.oneCell' = true := by simp [Value.oneCell']
theorem info_int : (Tryd.prog.info? 3).map (fun i => (i.zero, i.size, i.bytes)) = some (some (.int .i64 0), 1, 8) := by kernel_rfl
theorem int_one (x : Int) : ∀ u ∈ [Value.int .i64 x], u.oneCell' = true := by simp [Value.oneCell']
theorem index_str (l : List UInt8) (j : Nat) (hj : j < l.length) (W : World) : (Instr.index 9 (.string ⟨l.toArray⟩) (.int .i64 (j : Int))).run Tryd.prog W = .ok (.int .u8 ((l.getD j 0).toNat : Int)) W := by
  rw [run_index_string W 9 ⟨l.toArray⟩ .i64 (j : Int) Tryd.underlying9, dif_pos ⟨by omega, by show (j : Int) < (l.toArray.size : Int); simp; omega⟩]
  simp [List.getD_eq_getElem?_getD, hj]
  rfl
theorem info_u8 : (Tryd.prog.info? 5).map (fun i => (i.zero, i.size, i.bytes)) = some (some (.int .u8 0), 1, 1) := by kernel_rfl
def bys (l : List UInt8) : List Value := l.map fun b => Value.int .u8 (b.toNat : Int)
theorem bys_append (a b : List UInt8) : bys (a ++ b) = bys a ++ bys b := by simp [bys]
theorem bys_length (l : List UInt8) : (bys l).length = l.length := by simp [bys]
theorem run_string_of {P : Program} (w : World) (src dst e : TypeId) (hs : P.underlying src = some (.slice e)) (he : P.underlying e = some (.int .u8)) (hd : P.underlying dst = some .string) {v : Value} {n : Nat} {l : List UInt8} (h : Sl w v 1 n (bys l)) :
    (convert src dst v).run P w = .ok (.string ⟨l.toArray⟩) w := by
  obtain ⟨A, c, rfl, _, _, hl, h5⟩ := h
  have hn : n = l.length := by rw [bys_length] at hl; omega
  subst hn
  rcases h5 with h0 | ⟨g, o, rfl, hlt, hc⟩
  · have : l = [] := List.length_eq_zero_iff.1 h0
    subst this
    cases A with
    | none => rw [run_convert_bytes_string w src dst e none _ c hs he hd]; simp [Conv.bytesToString]; rfl
    | some a => exact run_convert_bytes_back w src dst e a c [] hs he hd (fun j hj => absurd hj (by simp))
  · refine run_convert_bytes_back w src dst e _ c l hs he hd (fun j hj => ?_)
    have hadd : (⟨g, o, none⟩ : Addr).add j = ⟨g, o + j, none⟩ := by unfold Addr.add; split <;> simp_all
    rw [hadd]
    exact hc j _ (by simp [bys, hj])
theorem u8_of (n : Nat) : IntKind.u8.wrap (n : Int) = ((UInt8.ofNat n).toNat : Int) := by
  rw [IntKind.wrap_u8]
  have : (UInt8.ofNat n).toNat = n % 256 := UInt8.toNat_ofNat' ..
  omega
theorem Sl.of_blk {w : World} {b n c : Nat} {e : TypeId} {news : List Value} (h : Blk w b e news.toArray) (hl : news.length = n) (hc : n ≤ c) (hm : c ≤ maxLen) : Sl w (.slice (some ⟨b, 0, none⟩) n c) 1 n news :=
  ⟨_, c, rfl, hc, hm, by omega, .inr ⟨b, 0, rfl, h.lt, fun j x hx => by rw [Nat.zero_add, h.cell j]; simpa using hx⟩⟩
theorem results_t_cell_t {P : Program} {fn : Func} {p q r : Tmp} {ty : TypeId} (h : fn.results = #[.tmp p, .cell q ty, .tmp r]) (tmps : Array Value) (w : World) (g : Nat) (t : TypeId) (cs : Array Value) (fr : Nat × Nat) (d : TypeDesc)
    (hq : tmps.getD q undef = .pointer (some ⟨g, 0, none⟩)) (hg : w.heap[g]? = some (.cells cs t fr))
    (hu : P.underlying ty = some d) (hd : (match d with | .struct _ | .array _ _ => true | _ => false) = true) (hi : (P.info? ty).map (·.size) = some cs.size) :
    (results fn tmps).run P w = .ok (.tuple #[tmps.getD p undef, .agg cs, tmps.getD r undef]) w := by
  simp only [results, h]
  simp only [Array.getD_eq_getD_getElem?] at hq
  simp [Result.andThen, hq, asAddr, run_loadVar_row w g t ty cs fr d hg hu hd hi]
end Go.Proofs.YtjokaennipmmaaaDoor
