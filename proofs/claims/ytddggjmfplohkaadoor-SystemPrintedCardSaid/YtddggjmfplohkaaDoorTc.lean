import Derived.Test.YtddggjmfplohkaaDoorTb
import Derived.Shelf.Strings.OnBuilder
import Derived.Shelf.Strconv.Itoa3
import Derived.Lib.AppendIntMem
/- Numbers as texts, and texts with a comma between. -/
namespace Go.Proofs.YtddggjmfplohkaaDoor
open Go Go.Shelf Go.RowKit Go.Sort Go.Lib
/-- Where the shelf's numbers of what FormatUint calls lie in this program. -/
def jn : Ren where
  f
    | 129 => 88
    | 283 => 80
    | 284 => 81
    | 285 => 82
    | 317 => 87
    | 318 => 89
    | x => x
  t
    | 0 => 0
    | 3 => 3
    | 4 => 4
    | 5 => 5
    | 9 => 9
    | 37 => 42
    | 46 => 126
    | 51 => 36
    | 53 => 79
    | 212 => 123
    | x => x
  g
    | 17 => 3
    | x => x
theorem jl283 : Lays.n283 Tryd.prog jn := by
  constructor <;> (first | kernel_rfl | (intro w; kernel_rfl))
theorem jl284 : LaysM.n284 Tryd.prog jn := by
  constructor
  · constructor <;> (first | kernel_rfl | (intro w; kernel_rfl))
  all_goals kernel_rfl
theorem jl285 : Lays.n285 Tryd.prog jn := by
  constructor <;> (first | kernel_rfl | (intro w; kernel_rfl))
theorem jl156 : Lays.n156 Tryd.prog jr := by
  constructor <;> (first | kernel_rfl | (intro w; kernel_rfl))
theorem grow_of {w : World} (k : Nat) (os : Array Obj) : Grow w (grow (w.drewN k) os) := ⟨rfl, rfl, rfl, by
  show w.heap.size ≤ (w.heap ++ os).size
  simp, fun g hg => Lib.heap_grow_old w k os g hg⟩
set_option maxHeartbeats 4000000 in
set_option maxRecDepth 100000 in
/-- internal/strconv.FormatUint, in base ten: the digits. -/
theorem fmt_c (u : Nat) (hu : u < 4294967296) (w : World) (htab : Lib.TabIs Tryd.prog w "internal/strconv.uint64pow10" .u64 Lib.pow10Tab) :
    Calls Tryd.prog 63 #[.int .u64 u, .int .i64 10] w fun e w' => e = .returned (.string ⟨(Lib.decDigits u).toArray⟩) ∧ Grow w w' := by
  by_cases hs : u < 100
  · go_enter Tryd.func63, Tryd.ntmps63
    go_wp2_with (fail)
    have hsm : Calls Tryd.prog 80 #[.int .i64 u] w fun e w' => e = .returned (.string ⟨(Lib.decDigits u).toArray⟩) ∧ w' = w := Any.internal_strconv_small jl283 u hs w
    refine hsm.mono ?_
    rintro e w' ⟨rfl, rfl⟩
    go_wp2
    go_ret
    exact ⟨rfl, Grow.refl _⟩
  · have hu1 : 1 ≤ u := by omega
    have hu64 : u < 18446744073709551616 := by omega
    have hnd20 : Lib.nDigits u ≤ 20 := by have := Lib.numDigits_eq u hu1 hu64; split at this <;> omega
    have hsl1 : ∀ W, (Instr.sliceAt 112 (.pointer (some ⟨w.heap.size, 0, none⟩)) none (some (.int .i64 (Lib.nDigits u : Int))) none).run Tryd.prog W = .ok (.slice (some ⟨w.heap.size, 0, none⟩) (Lib.nDigits u) 24) W := fun W => by
      have hal : Tryd.prog.arrayLen 112 = 24 := by kernel_rfl
      rw [run_sliceAt_array_h W 112 ⟨w.heap.size, 0, none⟩ (by kernel_rfl) .i64 (Lib.nDigits u : Int) (by omega) (by rw [hal]; omega)]
      go_simp
    have hH0 := Lib.holds_zero0 w 112 (Lib.nDigits u) (by omega)
    have hfmt := Any.internal_strconv_formatBase10 jl285 w.heap.size 0 24 u (Array.replicate (Lib.nDigits u) 0) (w.alloc (.cells Lib.zeros24 112)) hH0 (by rw [Array.size_replicate]; exact Lib.lt_pow_nDigits u) hu64 (by rw [Array.size_replicate]; omega)
    rw [Array.size_replicate] at hfmt
    have HH0 := Lib.hid hH0
    clear hH0
    go_enter Tryd.func63, Tryd.ntmps63
    have hnd : ∀ W, Lib.TabIs Tryd.prog W "internal/strconv.uint64pow10" .u64 Lib.pow10Tab → Calls Tryd.prog 81 #[.int .u64 u] W fun e w' => e = .returned (.int .i64 (Lib.nDigits u)) ∧ w' = W := fun W h => Any.internal_strconv_numDigits jl284 u hu1 hu64 W h
    go_wp2_with (fail)
    refine (hnd _ (Lib.tabIs_alloc htab _)).mono ?_
    rintro e w' ⟨rfl, rfl⟩
    go_wp2_with (fail)
    refine hfmt.mono ?_
    rintro e w' ⟨rfl, k, v', dk, rfl, hF⟩
    have hcv : (convert 42 9 (.slice (some ⟨w.heap.size, 0, none⟩) (Lib.nDigits u) 24)).run Tryd.prog ((putRow (fun (b : UInt8) => Value.int .u8 (b.toNat : Int)) (w.alloc (.cells Lib.zeros24 112)) w.heap.size 0 dk).drewN k) = .ok (.string ⟨(Lib.decDigits u).toArray⟩) ((putRow (fun (b : UInt8) => Value.int .u8 (b.toNat : Int)) (w.alloc (.cells Lib.zeros24 112)) w.heap.size 0 dk).drewN k) := by
      have h := run_convert_bytes_back (P := Tryd.prog) ((putRow (fun (b : UInt8) => Value.int .u8 (b.toNat : Int)) (w.alloc (.cells Lib.zeros24 112)) w.heap.size 0 dk).drewN k) 42 9 5 ⟨w.heap.size, 0, none⟩ 24 (Lib.decDigits u) (by kernel_rfl) (by kernel_rfl) (by kernel_rfl) (fun j hj => by
        rw [Lib.row_is_numeral hF j hj, Lib.add_plain, World.cell?_drewN]
        exact cell?_putRow (fun (b : UInt8) => Value.int .u8 (b.toNat : Int)) _ w.heap.size 0 _ dk HH0.out (by rw [hF.size, Array.size_replicate]) j (by rw [hF.size]; rw [Lib.decDigits_length] at hj; exact hj))
      rw [Lib.decDigits_length] at h
      exact h
    go_wp2
    go_ret
    refine ⟨rfl, ?_⟩
    rw [alloc_eq_grow]
    obtain ⟨os', _, e⟩ := putRow_grow_new (fun (b : UInt8) => Value.int .u8 (b.toNat : Int)) w #[.cells Lib.zeros24 112] w.heap.size 0 dk (Nat.le_refl _)
    rw [e]
    exact grow_of k os'
/-- A number's decimal digits; texts with a text between. -/
def decE (u : Nat) : ByteArray := ⟨(Lib.decDigits u).toArray⟩
def joinE (l : List ByteArray) (sep : ByteArray) : ByteArray := ⟨(Lib.join (l.map (·.data.toList)) sep.data.toList).toArray⟩
theorem s_fmtI (u : Nat) (hu : u < 4294967296) : Spec (Ctx.mk Tryd.prog globT 7 LaidT) 63 [.v (.int .u64 u), .v (.int .i64 10)] [] (.v (.string (decE u))) [] :=
  spec_val (C := (Ctx.mk Tryd.prog globT 7 LaidT)) rfl (fun _ => .v _) fun E vs hP _ ha => by
    obtain ⟨x, y, rfl, hx, hy⟩ := repC2 ha
    rw [hx.v_eq, hy.v_eq]
    exact fmt_c u hu E.w hP.2.2
set_option maxRecDepth 100000 in
theorem s_fmt (u : Nat) (hu : u < 4294967296) : Spec (Ctx.mk Tryd.prog globT 7 LaidT) 37 [.v (.int .u64 u), .v (.int .i64 10)] [] (.v (.string (decE u))) [] := by
  refine spec_of_bodyL CX_mixed CX_gpk Tryd.func37 rfl 8 0 rfl rfl rfl rfl ?_
  refine go_ ?_
  with_reducible apply run_y
  exact want_
  · intro K hK
    refine ev_ ?_
    refine vcCall_plain (s_fmtI u hu) (by kernel_rfl) ?_
    refine ev_ ?_
    exact hK
  refine go_ ?_
  refine ev_ ?_
  exact .mk (by rfl) trivial
theorem wrap_u64n {u : Nat} (hu : u < 4294967296) : IntKind.u64.wrap (u : Int) = (u : Int) := by rw [IntKind.wrap_u64]; omega
set_option maxRecDepth 100000 in
theorem s_num (u : Nat) (hu : u < 4294967296) : Spec (Ctx.mk Tryd.prog globT 7 LaidT) 15 [.v (.int .u32 u)] [] (.v (.string (decE u))) [] := by
  refine spec_of_bodyL CX_mixed CX_gpk Tryd.func15 rfl 6 0 rfl rfl rfl rfl ?_
  refine go_ ?_
  rw [wrap_u64n hu]
  with_reducible apply run_y
  exact want_
  · intro K hK
    refine ev_ ?_
    refine vcCall_plain (s_fmt u hu) (by kernel_rfl) ?_
    refine ev_ ?_
    exact hK
  refine go_ ?_
  refine ev_ ?_
  exact .mk (by rfl) trivial
theorem rep_ss {E : Env} (hF : ∀ g i, E.F g i → g < E.w.heap.size) {k : K} {l : List ByteArray} {x : Value} (r : Rep E (.sl k (ssP l)) x) :
    ∃ A c, x = .slice A l.length c ∧ l.length ≤ c ∧ c ≤ maxLen ∧ (0 < l.length → ∃ g o, A = some ⟨g, o, none⟩ ∧ g < E.w.heap.size ∧ ∀ i, i < l.length → E.w.cell? ⟨g, o + i, none⟩ = some (.string (l.getD i ByteArray.empty))) := by
  generalize hes : ssP l = es at r
  cases r with
  | sl _ _ A c g o sz val h1 h2 h3 h4 h5 h6 hc hr =>
    subst hes
    rw [ssP_len] at h1 h5 hc hr ⊢
    refine ⟨A, c, rfl, h1, h2, fun hn => ?_⟩
    have hA := h6 (fun e => by have := ssP_len l; rw [e] at this; simp at this; omega)
    have hsz : sz = 1 := by
      have := h5 0 hn
      rw [ssP_getD hn] at this
      exact this.symm
    subst hsz
    refine ⟨g, o, hA, hF _ _ (hc 0 0 hn (by omega)).2.1, fun i hi => ?_⟩
    have h7 := (hc i 0 hi (by omega)).1
    have h8 := hr i 0 hi (by omega)
    rw [ssP_getD hi] at h8
    have h9 := h8.v_eq
    rw [h9] at h7
    simpa using h7
theorem s_join (l : List ByteArray) (sep : ByteArray) (hl : l.length ≤ 1000000) (h : (joinE l sep).size ≤ 140737488355328) : Spec (Ctx.mk Tryd.prog globT 7 LaidT) 14 [.sl .any (ssP l), .v (.string sep)] [] (.v (.string (joinE l sep))) [] :=
  spec_val (C := (Ctx.mk Tryd.prog globT 7 LaidT)) rfl (fun _ => .v _) fun E vs _ hF ha => by
    obtain ⟨x, y, rfl, hx, hy⟩ := repC2 ha
    rw [hy.v_eq]
    obtain ⟨A, c, rfl, h1, h2, h3⟩ := rep_ss hF hx
    have hj : (Lib.join (l.map (·.data.toList)) sep.data.toList).length ≤ 140737488355328 := by simpa [joinE, ByteArray.size] using h
    by_cases hn : 0 < l.length
    · obtain ⟨g, o, rfl, hg, hc⟩ := h3 hn
      exact Any.strings_Join jl156 jx g o c l sep E.w (fun j x hx => by
        have hjl : j < l.length := by
          rcases Nat.lt_or_ge j l.length with h' | h'
          · exact h'
          · rw [List.getElem?_eq_none h'] at hx; cases hx
        rw [hc j hjl]
        simp [List.getD, hx]) hg (by omega) h1 hj
    · have : l = [] := List.eq_nil_of_length_eq_zero (by omega)
      subst this
      refine (Any.strings_Join_none jl156 jx A c sep E.w).mono ?_
      rintro e w' ⟨rfl, rfl⟩
      exact ⟨rfl, Grow.refl _⟩
end Go.Proofs.YtddggjmfplohkaaDoor
