import Derived.Test.YtddggjmfplohkaaDoorTa
import Derived.Shelf.Strings.Builder2
import Derived.Shelf.Strings.BuilderK
import Derived.Shelf.Strings.OnBuilder
import Derived.Shelf.Strconv.Itoa3
import Derived.Lib.AppendIntMem
import Derived.Test.YtddggjmfplohkaaDoorTre
/- A strings.Builder in a block of whatever type: copyCheck, WriteString, String; just which blocks they touch. -/
namespace Go.Proofs.YtddggjmfplohkaaDoor
open Go Go.Shelf Go.RowKit
/-- Where the shelf's numbers of strings.Builder's functions and types lie in this program. -/
def jr : Ren where
  f
    | 156 => 14
    | 165 => 36
    | 166 => 35
    | 169 => 17
    | 240 => 61
    | 241 => 62
    | 276 => 78
    | 277 => 79
    | x => x
  t
    | 0 => 0
    | 3 => 3
    | 4 => 4
    | 5 => 5
    | 9 => 9
    | 20 => 20
    | 31 => 22
    | 37 => 42
    | 70 => 41
    | 72 => 44
    | 75 => 74
    | 76 => 75
    | 80 => 56
    | 127 => 84
    | 164 => 108
    | x => x
  g x := x
theorem jl166 : Lays.n166 Tryd.prog jr := by
  constructor <;> (first | kernel_rfl | (intro w; kernel_rfl))
theorem jl169 : Lays.n169 Tryd.prog jr := by
  constructor <;> (first | kernel_rfl | (intro w; kernel_rfl))
theorem jx72 : Builder.X72 Tryd.prog jr := by
  constructor <;> (first | kernel_rfl | decide)
theorem jx : Builder.Extra Tryd.prog jr where
  toX72 := jx72
  t5 := by kernel_rfl
  a5 := by intro w; kernel_rfl
  z5 := by intro w; kernel_rfl
  v5 := by intro w; kernel_rfl
  infoByte := by kernel_rfl
  cellsByte := by kernel_rfl
  sizeByte := by kernel_rfl
  neB5 := by decide
section
variable {P : Program} {ρ : Ren}
/-- What a call that is handed a builder's block leaves. -/
structure KeptB (w w' : World) (b : Nat) (v v' : Value) : Prop where
  os : w'.os = w.os
  tape : w'.tape = w.tape
  output : w'.output = w.output
  size : w.heap.size ≤ w'.heap.size
  block : ∀ k, k < w.heap.size → k ≠ b → v.ownBlock ≠ some k → w'.heap[k]? = w.heap[k]?
  buf : ∀ k, v'.ownBlock = some k → v.ownBlock = some k ∨ w.heap.size ≤ k
/-- Bytes are appended to a builder's buffer: which block it lies in behind it. -/
theorem run_app (w : World) (t u ty e : TypeId) (i : TypeInfo) (ht : P.underlying t = some (.slice e)) (hu : P.underlying u = some .string) (hi : P.info? e = some i) (hz : i.zero = some (.int .u8 0)) (hsize : i.size = 1) (hby : i.bytes = 1)
    (v : Value) (n : Nat) (xs : List Value) (hown : w.ownsRowF 0 e 1 v n xs) (s : ByteArray) (hb : n + s.size ≤ 140737488355328) :
    ∃ v' w', (Builtin.append_ #[t, u] ty #[v, .string s]).run P w = .ok v' w' ∧ w'.ownsRowF 0 e 1 v' (n + s.size) (xs ++ Lib.strCells s) ∧ w.grownBy w' v.ownBlock ∧ ∀ k, v'.ownBlock = some k → v.ownBlock = some k ∨ w.heap.size ≤ k := by
  have h63 : n + s.size ≤ maxLen := by unfold maxLen; omega
  obtain ⟨v', w', h1, h2, h3, _⟩ := Lib.run_append_own_stringF (P := P) w 0 t u ty e i ht hu hi hz hsize hby v n xs hown s h63 hb (Nat.zero_le _)
  refine ⟨v', w', h1, h2, h3, ?_⟩
  rcases hown.2 with ⟨rfl, rfl⟩ | ⟨g, cap, cur, fz, rfl, hbg, hg, hfz, hnc, hcm, hcs, htake⟩
  · obtain ⟨v2, w2, q1, q2, _⟩ := Lib.run_append_own_string (P := P) w w.heap.size t u ty e i ht hu hi hz hsize hby (.slice none 0 0) 0 xs ⟨hown.1, .inl ⟨rfl, rfl⟩⟩ s h63 hb (Nat.le_refl _)
    rw [h1] at q1
    injection q1 with q1 q1'
    subst q1 q1'
    intro k hk
    rcases q2.2 with ⟨rfl, _⟩ | ⟨g, cap, cur, rfl, hbg, _⟩
    · simp [Value.ownBlock] at hk
    · simp only [Value.ownBlock, Option.some.injEq] at hk
      exact .inr (hk ▸ hbg)
  · by_cases hroom : n + s.size ≤ cap
    · have hr := Lib.run_append_room_stringF (P := P) w t u ty e i ht hu hi hsize g n cap cur fz hg (by simpa using hfz) s hroom (by omega)
      rw [h1] at hr
      injection hr with hr _
      subst hr
      exact fun k hk => .inl (by simpa [Value.ownBlock] using hk)
    · have hxl : xs.length = n := by simpa using hown.1
      have holds : ∀ j u, xs[j]? = some u → w.cell? ((⟨g, 0, none⟩ : Addr).add j) = some u := hown.cells (g := g) rfl
      have hr := Lib.run_append_grow_string (P := P) w t u ty e i (.int .u8 0) ht hu hi hz ⟨g, 0, none⟩ n cap xs (by rw [hsize]; simpa using hxl) holds s (by omega) (by omega) (by rw [hby]; exact growslice_fits (by omega) (by omega))
      rw [h1] at hr
      injection hr with hr _
      subst hr
      intro k hk
      simp only [Value.ownBlock, Option.some.injEq] at hk
      exact .inr (by omega)
theorem wpList_app {ops : Array Oper} {rest : List Oper} {o : Oper} {a : Act} {Q : Exit → Act → World → Prop} {w : World} (hgd : o.guard = none) (sl x : Operand) (t u : TypeId)
    (ho : o.op = .call { callee := .builtin .append, args := #[sl, x], argTypes := #[t, u] })
    (e : TypeId) (i : TypeInfo) (ht : P.underlying t = some (.slice e)) (hu : P.underlying u = some .string) (hi : P.info? e = some i) (hz : i.zero = some (.int .u8 0)) (hsize : i.size = 1) (hby : i.bytes = 1)
    (v : Value) (n : Nat) (xs : List Value) (hs : a.eval sl = v) (hown : w.ownsRowF 0 e 1 v n xs) (s : ByteArray) (hx : a.eval x = .string s) (hbytes : n + s.size ≤ 140737488355328)
    (h : ∀ v' w', w'.ownsRowF 0 e 1 v' (n + s.size) (xs ++ Lib.strCells s) → w.grownBy w' v.ownBlock → (∀ k, v'.ownBlock = some k → v.ownBlock = some k ∨ w.heap.size ≤ k) → wpList P ops Q rest (a.put o.dst v') w') : wpList P ops Q (o :: rest) a w := by
  refine wpList_plain hgd fun K hK => ?_
  obtain ⟨v', w', hr, h2, h3, h4⟩ := run_app (P := P) w t u o.type e i ht hu hi hz hsize hby v n xs hown s hbytes
  unfold Oper.wp execOp
  simp only [ho, resolve, invoke, builtin, Sem.run_bind, Sem.run_pure, Result.andThen_ok, List.map_toArray, List.map_cons, List.map_nil, hs, hx, hr]
  exact hK _ _ (h v' w' h2 h3 h4)
set_option maxHeartbeats 2000000 in
set_option maxRecDepth 100000 in
/-- copyCheck of a builder that wasn't written yet, in a block of type T at whose beginning a builder lies. -/
theorem copyCheck_T (L : Lays.n240 P ρ) (X : Builder.X72 P ρ) {T : TypeId} (hl : liesAt P P.depth T (2 / P.cellsOf T) 0 (ρ.t 72) 1 = true) (b : Nat) (w : World) (h0 : w.cell? ⟨b, 0, none⟩ = some (.pointer none)) (hsh : w.shape? b = some (T, 2)) (hfz : w.frozen? ⟨b, 0, none⟩ = false) :
    Calls P (ρ.f 240) #[.pointer (some ⟨b, 0, none⟩)] w fun e w' => e = .returned (.tuple #[]) ∧ w' = w.setCell ⟨b, 0, none⟩ (.pointer (some ⟨b, 0, none⟩)) := by
  obtain ⟨j, hj, hjs⟩ := Option.map_eq_some_iff.1 X.sizeBuilder
  have mixed := L.mixed
  have t72 := L.t72; have a72 := L.a72; have z72 := L.z72; have v72 := L.v72; have u72 := run_underlying L.t72
  have t70 := L.t70; have a70 := L.a70; have z70 := L.z70; have v70 := L.v70; have u70 := run_underlying L.t70
  have t9 := L.t9; have a9 := L.a9; have z9 := L.z9; have v9 := L.v9; have u9 := run_underlying L.t9
  have t4 := L.t4; have a4 := L.a4; have z4 := L.z4; have v4 := L.v4; have u4 := run_underlying L.t4
  have t164 := L.t164; have a164 := L.a164; have z164 := L.z164; have v164 := L.v164; have u164 := run_underlying L.t164
  go_enter L.f240, Body.n240_ntmps ρ
  go_wp2
  rw [Lib.run_to_unsafe w ⟨b, 0, none⟩ L.t70 L.t164 hj (by rw [hjs]; decide) hsh (Nat.zero_lt_succ 1)]
  simp only [Result.andThen]
  rw [Oper.upon_value]
  go_wp2
  rw [run_callFunc_extern L.f276 (by kernel_rfl) (by kernel_rfl) (by kernel_rfl) (e := Extern.AbiNoEscape.same) (by kernel_rfl)]
  rw [Lib.run_noEscape]
  simp only [Result.andThen]
  rw [Oper.upon_value]
  go_wp2
  rw [Lib.run_from_unsafe w ⟨b, 0, none⟩ L.t164 L.t70 hj hsh hl]
  simp only [Result.andThen]
  rw [Oper.upon_value]
  go_wp2
  go_end0
  exact ⟨rfl, rfl⟩
theorem byteVs_app (s x : ByteArray) : byteVs (s ++ x) = byteVs s ++ Lib.strCells x := by simp [byteVs, Lib.strCells]
/-- Behind copyCheck: the builder's address stands in it. -/
theorem checked_T (L : Lays.n240 P ρ) (X : Builder.X72 P ρ) {T : TypeId} (hl : liesAt P P.depth T (2 / P.cellsOf T) 0 (ρ.t 72) 1 = true) (b : Nat) (s : ByteArray) (v : Value) (w : World) (h : BldC w b T (ρ.t 5) s v) :
    Calls P (ρ.f 240) #[.pointer (some ⟨b, 0, none⟩)] w fun e w' => e = .returned (.tuple #[]) ∧ (∃ fr, w'.heap[b]? = some (.cells #[.pointer (some ⟨b, 0, none⟩), v] T fr) ∧ ∀ i, i < 2 → (decide (fr.1 ≤ i) && decide (i < fr.2)) = false) ∧ w.grownBy w' (some b) ∧ w'.heap.size = w.heap.size := by
  obtain ⟨p, fr, h1, h2, h3, h4, h5⟩ := h
  rcases h3 with rfl | rfl
  · refine (copyCheck_T L X hl b w (by rw [Lib.cell_of_heap h1]; rfl) (by simp [World.shape?, h1]) (by have := h2 0 (by decide); simpa [World.frozen?, h1] using this)).mono ?_
    rintro e w' ⟨rfl, rfl⟩
    have e1 := setCell_eq_setRow w b 0 #[.pointer none, v] T fr (.pointer (some ⟨b, 0, none⟩)) h1
    rw [e1]
    refine ⟨rfl, ⟨fr, setRow_heap w b _ _ T _ h1, h2⟩, ⟨rfl, rfl, rfl, by simp, fun k _ hk => setRow_other w b k _ (fun e => hk (by rw [e]))⟩, by simp⟩
  · refine (Any.Builder_copyCheck_used L X b w (by rw [Lib.cell_of_heap h1]; rfl)).mono ?_
    rintro e w' ⟨rfl, rfl⟩
    exact ⟨rfl, ⟨fr, h1, h2⟩, ⟨rfl, rfl, rfl, Nat.le_refl _, fun _ _ _ => rfl⟩, rfl⟩
set_option maxHeartbeats 2000000 in
set_option maxRecDepth 100000 in
/-- WriteString. -/
theorem write_T (L : Lays.n166 P ρ) (X : Builder.Extra P ρ) {T : TypeId} (hl : liesAt P P.depth T (2 / P.cellsOf T) 0 (ρ.t 72) 1 = true) (b : Nat) (s x : ByteArray) (v : Value) (w : World) (h : BldC w b T (ρ.t 5) s v) (hlen : s.size + x.size ≤ 140737488355328) :
    Calls P (ρ.f 166) #[.pointer (some ⟨b, 0, none⟩), .string x] w fun e w' => e = .returned (.tuple #[.int .i64 x.size, .nilIface]) ∧ ∃ v', BldC w' b T (ρ.t 5) (s ++ x) v' ∧ KeptB w w' b v v' := by
  obtain ⟨i0, hi, hz0, hz1, hz2⟩ := info_parts X.infoByte
  have mixed := L.mixed
  have t72 := L.t72; have a72 := L.a72; have z72 := L.z72; have v72 := L.v72; have u72 := run_underlying L.t72
  have t70 := L.t70; have a70 := L.a70; have z70 := L.z70; have v70 := L.v70; have u70 := run_underlying L.t70
  have t37 := L.t37; have a37 := L.a37; have z37 := L.z37; have v37 := L.v37; have u37 := run_underlying L.t37
  have t3 := L.t3; have a3 := L.a3; have z3 := L.z3; have v3 := L.v3; have u3 := run_underlying L.t3
  have t9 := L.t9; have a9 := L.a9; have z9 := L.z9; have v9 := L.v9; have u9 := run_underlying L.t9
  have t4 := L.t4; have a4 := L.a4; have z4 := L.z4; have v4 := L.v4; have u4 := run_underlying L.t4
  have t164 := L.t164; have a164 := L.a164; have z164 := L.z164; have v164 := L.v164; have u164 := run_underlying L.t164
  have t5 := X.t5; have a5 := X.a5; have z5 := X.z5; have v5 := X.v5; have u5 := run_underlying X.t5
  have e240 : ∀ args w, (callFunc (ρ.f 240) args).run P w = .ok (.enter (ρ.f 240) args) w := enters_of L.f240 (by kernel_rfl) rfl
  go_enter L.f166, Body.n166_ntmps ρ
  go_wp2_with (go_at_fn (ρ.f 240); refine (checked_T { L with } X.toX72 hl b s v _ h).mono ?_)
  rintro e w1 ⟨rfl, ⟨fr, hbk, hfr⟩, hg1, hs1⟩
  obtain ⟨p, fr0, k1, k2, k3, hown0, hne⟩ := h
  have hown : w1.ownsRowF 0 (ρ.t 5) 1 v s.size (byteVs s) := by
    refine ⟨hown0.1, ?_⟩
    rcases hown0.2 with hn | ⟨g, cap, cur, fz, rfl, hb, hgg, rest⟩
    · exact .inl hn
    · refine .inr ⟨g, cap, cur, fz, rfl, hb, (hg1.block g (by
        rcases Nat.lt_or_ge g w.heap.size with h' | h'
        · exact h'
        · simp [Array.getElem?_eq_none h'] at hgg) (fun e => hne (by simpa [Value.ownBlock] using e))).trans hgg, rest⟩
  have c0 : w1.cell? ⟨b, 0, none⟩ = some (.pointer (some ⟨b, 0, none⟩)) := by rw [Lib.cell_of_heap hbk]; rfl
  have c1 : w1.cell? ⟨b, 1, none⟩ = some v := by rw [Lib.cell_of_heap hbk]; rfl
  go_wp2_with (at_builtin; refine wpList_app rfl _ _ (ρ.t 37) (ρ.t 9) rfl (ρ.t 5) i0 L.t37 L.t9 hi hz0 hz1 hz2 _ _ _ rfl hown x rfl ?c4 ?_)
  case c4 => omega
  intro v' w2 hown' hgrow hbuf
  have hlt : b < w1.heap.size := by
    rcases Nat.lt_or_ge b w1.heap.size with h' | h'
    · exact h'
    · simp [Array.getElem?_eq_none h'] at hbk
  have hb2 : w2.heap[b]? = some (.cells #[.pointer (some ⟨b, 0, none⟩), v] T fr) := by
    rw [hgrow.block b hlt (fun e => hne e.symm)]
    exact hbk
  have d0 : w2.cell? ⟨b, 0, none⟩ = some (.pointer (some ⟨b, 0, none⟩)) := by rw [Lib.cell_of_heap hb2]; rfl
  have d1 : w2.cell? ⟨b, 1, none⟩ = some v := by rw [Lib.cell_of_heap hb2]; rfl
  have f1 : w2.frozen? ⟨b, 1, none⟩ = false := by have := hfr 1 (by decide); simpa [World.frozen?, hb2] using this
  obtain ⟨ao, n', cap, rfl⟩ : ∃ ao n' cap, v' = .slice ao n' cap := by
    rcases hown'.2 with ⟨hv, _⟩ | ⟨g, cap, cur, fz, hv, _⟩
    · exact ⟨_, _, _, hv⟩
    · exact ⟨_, _, _, hv⟩
  go_wp2
  go_ret2
  have e1 := setCell_eq_setRow w2 b 1 #[.pointer (some ⟨b, 0, none⟩), v] T fr (.slice ao n' cap) hb2
  have hne' : (Value.slice ao n' cap).ownBlock ≠ some b := fun e => by
    rcases hbuf b e with h | h
    · exact hne h
    · omega
  refine ⟨rfl, _, ⟨.pointer (some ⟨b, 0, none⟩), fr, ?_, hfr, .inr rfl, ?_, hne'⟩, ⟨?_, ?_, ?_, ?_, fun k hk hkb hkv => ?_, fun k hk => ?_⟩⟩
  · rw [e1]; exact setRow_heap w2 b _ _ T _ hb2
  · rw [ByteArray.size_append, byteVs_app]
    refine ⟨hown'.1, ?_⟩
    rcases hown'.2 with hn | ⟨g, cap', cur, fz, hv, hb, hgg, rest⟩
    · exact .inl hn
    · refine .inr ⟨g, cap', cur, fz, hv, hb, ?_, rest⟩
      rw [e1, setRow_other w2 b g _ (fun e => hne' (by rw [hv]; simp [Value.ownBlock, e]))]
      exact hgg
  · rw [e1]; exact hgrow.os.trans hg1.os
  · rw [e1]; exact hgrow.tape.trans hg1.tape
  · rw [e1]; exact hgrow.output.trans hg1.output
  · rw [e1]
    have := hgrow.size
    simp only [setRow_size]
    omega
  · rw [e1, setRow_other w2 b k _ hkb, hgrow.block k (by omega) (fun e => hkv e.symm)]
    exact hg1.block k hk (fun e => hkb (by simpa using e))
  · rcases hbuf k hk with h | h
    · exact .inl h
    · exact .inr (by omega)
theorem BldC.froze {w : World} {b : Nat} {T e : TypeId} {s : ByteArray} {g cap : Nat} (h : BldC w b T e s (.slice (some ⟨g, 0, none⟩) s.size cap)) : BldC (w.freeze ⟨g, 0, none⟩ s.size) b T e s (.slice (some ⟨g, 0, none⟩) s.size cap) := by
  obtain ⟨p, fr, h1, h2, h3, hown, hne⟩ := h
  have hgb : g ≠ b := fun e => hne (by simp [Value.ownBlock, e])
  unfold World.freeze
  split
  · exact ⟨p, fr, h1, h2, h3, hown, hne⟩
  · refine ⟨p, fr, ?_, h2, h3, ⟨hown.1, ?_⟩, hne⟩
    · simp only [Array.getElem?_modify]
      rw [if_neg hgb]
      exact h1
    · rcases hown.2 with ⟨hv, _⟩ | ⟨g', cap', cur, fz, hv, hbg, hg, hfz, rest⟩
      · cases hv
      · injection hv with ha _ hcap
        injection ha with ha
        injection ha with hgg _ _
        subst hgg
        subst hcap
        obtain ⟨lo, hi⟩ := fz
        refine .inr ⟨g, _, cur, (if lo == hi then (0, 0 + s.size) else (min lo 0, max hi (0 + s.size))), rfl, hbg, ?_, ?_, rest⟩
        · simp [Array.getElem?_modify, hg]
        · simp only at hfz
          split <;> simp <;> omega
set_option maxHeartbeats 2000000 in
set_option maxRecDepth 100000 in
/-- String, of a builder that holds something. -/
theorem string_T (L : Lays.n169 P ρ) (X : Builder.Extra P ρ) {T : TypeId} (b : Nat) (s : ByteArray) (v : Value) (w : World) (h : BldC w b T (ρ.t 5) s v) (h0 : s.size ≠ 0) :
    Calls P (ρ.f 169) #[.pointer (some ⟨b, 0, none⟩)] w fun e w' => e = .returned (.string s) ∧ ∃ v', BldC w' b T (ρ.t 5) s v' ∧ KeptB w w' b v v' := by
  obtain ⟨g, cap, cur, fz, rfl, hg, hfz, hnc, hcm, hcs, htake⟩ : ∃ g cap cur fz, v = .slice (some ⟨g, 0, none⟩) s.size cap ∧ w.heap[g]? = some (.cells cur (ρ.t 5) fz) ∧ fz.2 ≤ s.size * 1 ∧ s.size ≤ cap ∧ cap ≤ maxLen ∧ cur.size = cap * 1 ∧ cur.toList.take (s.size * 1) = byteVs s := by
    obtain ⟨_, _, _, _, _, hown, _⟩ := h
    rcases hown.2 with ⟨_, hz⟩ | ⟨g, cap, cur, fz, hv, _, r⟩
    · exact absurd hz h0
    · exact ⟨g, cap, cur, fz, hv, r⟩
  have hkeep := BldC.froze (h := (show BldC w.drew b T (ρ.t 5) s _ from h))
  obtain ⟨p, fr, hbk, _, _, hown, hne⟩ := h
  have c1 : w.drew.cell? ⟨b, 1, none⟩ = some (.slice (some ⟨g, 0, none⟩) s.size cap) := by
    have : w.drew.heap[b]? = some (.cells #[p, .slice (some ⟨g, 0, none⟩) s.size cap] T fr) := hbk
    rw [Lib.cell_of_heap this]; rfl
  have hSD : (Builtin.unsafeSliceData_ #[(ρ.t 37)] (ρ.t 127) #[.slice (some ⟨g, 0, none⟩) s.size cap]).run P w.drew = .ok (.pointer (some ⟨g, 0, none⟩)) w.drew :=
    Lib.run_unsafeSliceData_row _ _ _ _ _ _ (by omega)
  have hl : s.data.toList.length = s.size := Array.length_toList
  have hs : (⟨s.data.toList.toArray⟩ : ByteArray) = s := by simp
  have hUS : (Builtin.unsafeString_ #[(ρ.t 127), (ρ.t 3)] (ρ.t 9) #[.pointer (some ⟨g, 0, none⟩), .int .i64 s.size]).run P w.drew = .ok (.string s) (w.drew.freeze ⟨g, 0, none⟩ s.size) := by
    have := Lib.run_unsafeString_row (P := P) w.drew (ρ.t 127) (ρ.t 3) (ρ.t 9) (ρ.t 5) L.t127 X.cellsByte g cur.size (by have hg' : w.drew.heap[g]? = some (.cells cur (ρ.t 5) fz) := hg; simp [World.shape?, hg']) s.data.toList (fun e => h0 (by rw [← hl, e]; rfl)) (by omega) (by unfold maxLen at hcm; omega) (by
      intro j x hx
      have := hown.cells (g := g) rfl j (.int .u8 x.toNat) (by unfold byteVs; rw [List.getElem?_map, hx]; rfl)
      exact this)
    rw [hl, hs] at this
    exact this
  have mixed := L.mixed
  have t72 := L.t72; have a72 := L.a72; have z72 := L.z72; have v72 := L.v72; have u72 := run_underlying L.t72
  have t70 := L.t70; have a70 := L.a70; have z70 := L.z70; have v70 := L.v70; have u70 := run_underlying L.t70
  have t37 := L.t37; have a37 := L.a37; have z37 := L.z37; have v37 := L.v37; have u37 := run_underlying L.t37
  have t127 := L.t127; have a127 := L.a127; have z127 := L.z127; have v127 := L.v127; have u127 := run_underlying L.t127
  have t3 := L.t3; have a3 := L.a3; have z3 := L.z3; have v3 := L.v3; have u3 := run_underlying L.t3
  have t9 := L.t9; have a9 := L.a9; have z9 := L.z9; have v9 := L.v9; have u9 := run_underlying L.t9
  have t5 := X.t5; have a5 := X.a5; have z5 := X.z5; have v5 := X.v5; have u5 := run_underlying X.t5
  have hfin : KeptB w (w.drew.freeze ⟨g, 0, none⟩ s.size) b (.slice (some ⟨g, 0, none⟩) s.size cap) (.slice (some ⟨g, 0, none⟩) s.size cap) := by
    unfold World.freeze
    rw [if_neg h0]
    refine ⟨rfl, rfl, rfl, by simp, fun k hk hkb hkv => ?_, fun k hk => .inl hk⟩
    simp only [Array.getElem?_modify]
    rw [if_neg (fun e => hkv (by simp [Value.ownBlock, e]))]
    rfl
  go_enter L.f169, Body.n169_ntmps ρ
  go_wp2
  go_region_o
  all_goals (go_wp2; go_ret; exact ⟨rfl, _, hkeep, hfin⟩)
end
/-- A contract of a method of a builder as a saying: the builder is a box. -/
theorem spec_bld {C : Ctx} {f : FuncId} {T e : TypeId} {s s' : ByteArray} {ys : List Value} {z : Value} {r : PV} (hr : r.plain = true) (hx : ∀ E, Rep E r z)
    (h : ∀ (w : World) (b : Nat) (v : Value), BldC w b T e s v → Calls C.P f (.pointer (some ⟨b, 0, none⟩) :: ys).toArray w fun en w' => en = .returned z ∧ ∃ v', BldC w' b T e s' v' ∧ KeptB w w' b v v') :
    SpecH C f (.ptr 1 0 :: ys.map .v) [.bld T e s] r [.bld T e s'] := by
  intro w F β vs hgp hgs hglob hargs hbox hF hFβ hβ hinj hb
  obtain ⟨g, v, e1, e2, e3⟩ := hb.1 0 T e s rfl
  have hvs : vs = (.pointer (some ⟨g, 0, none⟩) :: ys).toArray := by
    obtain ⟨hl, ha⟩ := hargs
    apply Array.ext
    · simpa using hl.symm
    · intro i hi hj
      have h1 := ha i (by rw [hl]; exact hi)
      simp only [Array.getD, hi, dite_true] at h1
      cases i with
      | zero =>
        obtain ⟨g', hz, hg'⟩ := Rep.ptr_inv h1
        have : some g' = some g := hg'.symm.trans e1
        injection this with this
        subst this
        simpa using hz
      | succ i =>
        have hi' : i < ys.length := by simpa using hj
        have e4 : (PV.ptr 1 0 :: ys.map .v).getD (i + 1) .top = .v ys[i] := by simp [List.getD, hi']
        rw [e4] at h1
        have := h1.v_eq
        simpa using this
  subst hvs
  refine (h w g v e2).mono ?_
  rintro en w' ⟨rfl, v', q1, q2⟩
  refine ⟨z, F, rfl, q2.os, q2.tape, q2.output, q2.size, fun k hk hkb hkv => q2.block k hk (fun x => hkb 1 (x ▸ e1)) (fun x => hkv ⟨0, T, e, s, g, v, rfl, e1, e2, x⟩), fun _ _ h => h, fun _ _ h => .inl h, hr, hx _, rfl, fun j hj => ?_, fun j T' e' s2 hj => ?_⟩
  · have : j = 0 := by simpa using hj
    subst this
    exact ⟨g, e1, fun i => hFβ 1 g i e1⟩
  · cases j with
    | succ j => simp at hj
    | zero =>
      simp only [List.getD_cons_zero, HC.bld.injEq] at hj
      obtain ⟨rfl, rfl, rfl⟩ := hj
      refine ⟨g, v', e1, q1, fun k hk => ?_⟩
      rcases q2.buf k hk with hk' | hk'
      · exact ⟨.inr ⟨0, T, e, s, g, v, rfl, e1, e2, hk'⟩, (e3 k hk').2.1, (e3 k hk').2.2⟩
      · exact ⟨.inl hk', fun i hi => by have := hF k i hi; omega, fun b hb => by have := (hβ b k hb).2.2.2; omega⟩
theorem lies_tape : liesAt Tryd.prog Tryd.prog.depth 46 (2 / Tryd.prog.cellsOf 46) 0 44 1 = true := by kernel_rfl
/-- A tape that holds a text. -/
abbrev tapeB (s : ByteArray) : HC := .bld 46 5 s
theorem s_write (s x : ByteArray) (h : s.size + x.size ≤ 140737488355328) : SpecH (Ctx.mk Tryd.prog globT 7 LaidT) 35 [.ptr 1 0, .v (.string x)] [tapeB s] (.tup [.v (.int .i64 x.size), .v .nilIface]) [tapeB (s ++ x)] :=
  spec_bld (C := (Ctx.mk Tryd.prog globT 7 LaidT)) (ys := [.string x]) rfl (fun _ => .tup _ _ rfl fun i hi => by
    have hi : i < 2 := hi
    match i, hi with
    | 0, _ => exact .v _
    | 1, _ => exact .v _) fun w b v hb => write_T jl166 jx lies_tape b s x v w hb h
theorem s_text (s : ByteArray) (h : s.size ≠ 0) : SpecH (Ctx.mk Tryd.prog globT 7 LaidT) 17 [.ptr 1 0] [tapeB s] (.v (.string s)) [tapeB s] :=
  spec_bld (C := (Ctx.mk Tryd.prog globT 7 LaidT)) (ys := []) rfl (fun _ => .v _) fun w b v hb => string_T jl169 jx b s v w hb h
end Go.Proofs.YtddggjmfplohkaaDoor

/- Numbers as texts, and texts with a comma between. -/
namespace Go.Proofs.YtddggjmfplohkaaDoor
open Go Go.Shelf Go.RowKit Go.Sort Go.Lib
/-- Where the shelf's numbers of what FormatUint calls lie in this program. -/
def jn : Ren where
  f
    | 129 => 88
    | 283 => 80
    | 284 => 81
    | 285 => 82
    | 317 => 87
    | 318 => 89
    | x => x
  t
    | 0 => 0
    | 3 => 3
    | 4 => 4
    | 5 => 5
    | 9 => 9
    | 37 => 42
    | 46 => 126
    | 51 => 36
    | 53 => 79
    | 212 => 123
    | x => x
  g
    | 17 => 3
    | x => x
theorem jl283 : Lays.n283 Tryd.prog jn := by
  constructor <;> (first | kernel_rfl | (intro w; kernel_rfl))
theorem jl284 : LaysM.n284 Tryd.prog jn := by
  constructor
  · constructor <;> (first | kernel_rfl | (intro w; kernel_rfl))
  all_goals kernel_rfl
theorem jl285 : Lays.n285 Tryd.prog jn := by
  constructor <;> (first | kernel_rfl | (intro w; kernel_rfl))
theorem jl156 : Lays.n156 Tryd.prog jr := by
  constructor <;> (first | kernel_rfl | (intro w; kernel_rfl))
theorem grow_of {w : World} (k : Nat) (os : Array Obj) : Grow w (grow (w.drewN k) os) := ⟨rfl, rfl, rfl, by
  show w.heap.size ≤ (w.heap ++ os).size
  simp, fun g hg => Lib.heap_grow_old w k os g hg⟩
set_option maxHeartbeats 4000000 in
set_option maxRecDepth 100000 in
/-- internal/strconv.FormatUint, in base ten: the digits. -/
theorem fmt_c (u : Nat) (hu : u < 4294967296) (w : World) (htab : Lib.TabIs Tryd.prog w "internal/strconv.uint64pow10" .u64 Lib.pow10Tab) :
    Calls Tryd.prog 63 #[.int .u64 u, .int .i64 10] w fun e w' => e = .returned (.string ⟨(Lib.decDigits u).toArray⟩) ∧ Grow w w' := by
  by_cases hs : u < 100
  · go_enter Tryd.func63, Tryd.ntmps63
    go_wp2_with (fail)
    have hsm : Calls Tryd.prog 80 #[.int .i64 u] w fun e w' => e = .returned (.string ⟨(Lib.decDigits u).toArray⟩) ∧ w' = w := Any.internal_strconv_small jl283 u hs w
    refine hsm.mono ?_
    rintro e w' ⟨rfl, rfl⟩
    go_wp2
    go_ret
    exact ⟨rfl, Grow.refl _⟩
  · have hu1 : 1 ≤ u := by omega
    have hu64 : u < 18446744073709551616 := by omega
    have hnd20 : Lib.nDigits u ≤ 20 := by have := Lib.numDigits_eq u hu1 hu64; split at this <;> omega
    have hsl1 : ∀ W, (Instr.sliceAt 112 (.pointer (some ⟨w.heap.size, 0, none⟩)) none (some (.int .i64 (Lib.nDigits u : Int))) none).run Tryd.prog W = .ok (.slice (some ⟨w.heap.size, 0, none⟩) (Lib.nDigits u) 24) W := fun W => by
      have hal : Tryd.prog.arrayLen 112 = 24 := by kernel_rfl
      rw [run_sliceAt_array_h W 112 ⟨w.heap.size, 0, none⟩ (by kernel_rfl) .i64 (Lib.nDigits u : Int) (by omega) (by rw [hal]; omega)]
      go_simp
    have hH0 := Lib.holds_zero0 w 112 (Lib.nDigits u) (by omega)
    have hfmt := Any.internal_strconv_formatBase10 jl285 w.heap.size 0 24 u (Array.replicate (Lib.nDigits u) 0) (w.alloc (.cells Lib.zeros24 112)) hH0 (by rw [Array.size_replicate]; exact Lib.lt_pow_nDigits u) hu64 (by rw [Array.size_replicate]; omega)
    rw [Array.size_replicate] at hfmt
    have HH0 := Lib.hid hH0
    clear hH0
    go_enter Tryd.func63, Tryd.ntmps63
    have hnd : ∀ W, Lib.TabIs Tryd.prog W "internal/strconv.uint64pow10" .u64 Lib.pow10Tab → Calls Tryd.prog 81 #[.int .u64 u] W fun e w' => e = .returned (.int .i64 (Lib.nDigits u)) ∧ w' = W := fun W h => Any.internal_strconv_numDigits jl284 u hu1 hu64 W h
    go_wp2_with (fail)
    refine (hnd _ (Lib.tabIs_alloc htab _)).mono ?_
    rintro e w' ⟨rfl, rfl⟩
    go_wp2_with (fail)
    refine hfmt.mono ?_
    rintro e w' ⟨rfl, k, v', dk, rfl, hF⟩
    have hcv : (convert 42 9 (.slice (some ⟨w.heap.size, 0, none⟩) (Lib.nDigits u) 24)).run Tryd.prog ((putRow (fun (b : UInt8) => Value.int .u8 (b.toNat : Int)) (w.alloc (.cells Lib.zeros24 112)) w.heap.size 0 dk).drewN k) = .ok (.string ⟨(Lib.decDigits u).toArray⟩) ((putRow (fun (b : UInt8) => Value.int .u8 (b.toNat : Int)) (w.alloc (.cells Lib.zeros24 112)) w.heap.size 0 dk).drewN k) := by
      have h := run_convert_bytes_back (P := Tryd.prog) ((putRow (fun (b : UInt8) => Value.int .u8 (b.toNat : Int)) (w.alloc (.cells Lib.zeros24 112)) w.heap.size 0 dk).drewN k) 42 9 5 ⟨w.heap.size, 0, none⟩ 24 (Lib.decDigits u) (by kernel_rfl) (by kernel_rfl) (by kernel_rfl) (fun j hj => by
        rw [Lib.row_is_numeral hF j hj, Lib.add_plain, World.cell?_drewN]
        exact cell?_putRow (fun (b : UInt8) => Value.int .u8 (b.toNat : Int)) _ w.heap.size 0 _ dk HH0.out (by rw [hF.size, Array.size_replicate]) j (by rw [hF.size]; rw [Lib.decDigits_length] at hj; exact hj))
      rw [Lib.decDigits_length] at h
      exact h
    go_wp2
    go_ret
    refine ⟨rfl, ?_⟩
    rw [alloc_eq_grow]
    obtain ⟨os', _, e⟩ := putRow_grow_new (fun (b : UInt8) => Value.int .u8 (b.toNat : Int)) w #[.cells Lib.zeros24 112] w.heap.size 0 dk (Nat.le_refl _)
    rw [e]
    exact grow_of k os'
/-- A number's decimal digits; texts with a text between. -/
def decE (u : Nat) : ByteArray := ⟨(Lib.decDigits u).toArray⟩
def joinE (l : List ByteArray) (sep : ByteArray) : ByteArray := ⟨(Lib.join (l.map (·.data.toList)) sep.data.toList).toArray⟩
theorem s_fmtI (u : Nat) (hu : u < 4294967296) : Spec (Ctx.mk Tryd.prog globT 7 LaidT) 63 [.v (.int .u64 u), .v (.int .i64 10)] [] (.v (.string (decE u))) [] :=
  spec_val (C := (Ctx.mk Tryd.prog globT 7 LaidT)) rfl (fun _ => .v _) fun E vs hP _ ha => by
    obtain ⟨x, y, rfl, hx, hy⟩ := repC2 ha
    rw [hx.v_eq, hy.v_eq]
    exact fmt_c u hu E.w hP.2.2
set_option maxRecDepth 100000 in
theorem s_fmt (u : Nat) (hu : u < 4294967296) : Spec (Ctx.mk Tryd.prog globT 7 LaidT) 37 [.v (.int .u64 u), .v (.int .i64 10)] [] (.v (.string (decE u))) [] := by
  refine spec_of_bodyL CX_mixed CX_gpk Tryd.func37 rfl 8 0 rfl rfl rfl rfl ?_
  refine go_ ?_
  with_reducible apply run_y
  exact want_
  · intro K hK
    refine ev_ ?_
    refine vcCall_plain (s_fmtI u hu) (by kernel_rfl) ?_
    refine ev_ ?_
    exact hK
  refine go_ ?_
  refine ev_ ?_
  exact .mk (by rfl) trivial
theorem wrap_u64n {u : Nat} (hu : u < 4294967296) : IntKind.u64.wrap (u : Int) = (u : Int) := by rw [IntKind.wrap_u64]; omega
set_option maxRecDepth 100000 in
theorem s_num (u : Nat) (hu : u < 4294967296) : Spec (Ctx.mk Tryd.prog globT 7 LaidT) 15 [.v (.int .u32 u)] [] (.v (.string (decE u))) [] := by
  refine spec_of_bodyL CX_mixed CX_gpk Tryd.func15 rfl 6 0 rfl rfl rfl rfl ?_
  refine go_ ?_
  rw [wrap_u64n hu]
  with_reducible apply run_y
  exact want_
  · intro K hK
    refine ev_ ?_
    refine vcCall_plain (s_fmt u hu) (by kernel_rfl) ?_
    refine ev_ ?_
    exact hK
  refine go_ ?_
  refine ev_ ?_
  exact .mk (by rfl) trivial
theorem rep_ss {E : Env} (hF : ∀ g i, E.F g i → g < E.w.heap.size) {k : K} {l : List ByteArray} {x : Value} (r : Rep E (.sl k (ssP l)) x) :
    ∃ A c, x = .slice A l.length c ∧ l.length ≤ c ∧ c ≤ maxLen ∧ (0 < l.length → ∃ g o, A = some ⟨g, o, none⟩ ∧ g < E.w.heap.size ∧ ∀ i, i < l.length → E.w.cell? ⟨g, o + i, none⟩ = some (.string (l.getD i ByteArray.empty))) := by
  generalize hes : ssP l = es at r
  cases r with
  | sl _ _ A c g o sz val h1 h2 h3 h4 h5 h6 hc hr =>
    subst hes
    rw [ssP_len] at h1 h5 hc hr ⊢
    refine ⟨A, c, rfl, h1, h2, fun hn => ?_⟩
    have hA := h6 (fun e => by have := ssP_len l; rw [e] at this; simp at this; omega)
    have hsz : sz = 1 := by
      have := h5 0 hn
      rw [ssP_getD hn] at this
      exact this.symm
    subst hsz
    refine ⟨g, o, hA, hF _ _ (hc 0 0 hn (by omega)).2.1, fun i hi => ?_⟩
    have h7 := (hc i 0 hi (by omega)).1
    have h8 := hr i 0 hi (by omega)
    rw [ssP_getD hi] at h8
    have h9 := h8.v_eq
    rw [h9] at h7
    simpa using h7
theorem s_join (l : List ByteArray) (sep : ByteArray) (hl : l.length ≤ 1000000) (h : (joinE l sep).size ≤ 140737488355328) : Spec (Ctx.mk Tryd.prog globT 7 LaidT) 14 [.sl .any (ssP l), .v (.string sep)] [] (.v (.string (joinE l sep))) [] :=
  spec_val (C := (Ctx.mk Tryd.prog globT 7 LaidT)) rfl (fun _ => .v _) fun E vs _ hF ha => by
    obtain ⟨x, y, rfl, hx, hy⟩ := repC2 ha
    rw [hy.v_eq]
    obtain ⟨A, c, rfl, h1, h2, h3⟩ := rep_ss hF hx
    have hj : (Lib.join (l.map (·.data.toList)) sep.data.toList).length ≤ 140737488355328 := by simpa [joinE, ByteArray.size] using h
    by_cases hn : 0 < l.length
    · obtain ⟨g, o, rfl, hg, hc⟩ := h3 hn
      exact Any.strings_Join jl156 jx g o c l sep E.w (fun j x hx => by
        have hjl : j < l.length := by
          rcases Nat.lt_or_ge j l.length with h' | h'
          · exact h'
          · rw [List.getElem?_eq_none h'] at hx; cases hx
        rw [hc j hjl]
        simp [List.getD, hx]) hg (by omega) h1 hj
    · have : l = [] := List.eq_nil_of_length_eq_zero (by omega)
      subst this
      refine (Any.strings_Join_none jl156 jx A c sep E.w).mono ?_
      rintro e w' ⟨rfl, rfl⟩
      exact ⟨rfl, Grow.refl _⟩
end Go.Proofs.YtddggjmfplohkaaDoor

/- The printer in plain Lean. -/
namespace Go.Proofs.YtddggjmfplohkaaDoor
open Go.RowKit
def opE (o : Int) : ByteArray := if 4 ≤ o then signsL.getD (o - 4).toNat ByteArray.empty else ByteArray.empty
def sgE (k o : Int) : ByteArray := if k = 8 then ⟨#[38, 38]⟩ else if k = 9 then ⟨#[124, 124]⟩ else opE o
mutual
/-- An expression's text. -/
def prE : Ex → ByteArray
  | .mk k o n s ks =>
    if k = 1 then decE n.toNat else if k = 2 then s
    else if k = 3 then s ++ ⟨#[91]⟩ ++ prEs false ks ++ ⟨#[93]⟩
    else if k = 4 then s ++ ⟨#[40]⟩ ++ prEs false ks ++ ⟨#[41]⟩
    else if k = 5 then ⟨#[103, 101, 116, 40, 41]⟩
    else if k = 7 then ⟨#[33]⟩ ++ prEs false ks
    else prB (⟨#[32]⟩ ++ sgE k o ++ ⟨#[32]⟩) ks
/-- Both sides, a sign between. -/
def prB : ByteArray → List Ex → ByteArray
  | _, [] => ByteArray.empty
  | g, a :: r => ⟨#[40]⟩ ++ prE a ++ g ++ prEs false r ++ ⟨#[41]⟩
/-- Expressions' texts, with a comma and a blank between; and ahead, too. -/
def prEs : Bool → List Ex → ByteArray
  | _, [] => ByteArray.empty
  | c, e :: l => (if c = true then ⟨#[44, 32]⟩ else ByteArray.empty) ++ prE e ++ prEs true l
end
/-- Two blanks for each level. -/
def indE : Nat → ByteArray
  | 0 => ByteArray.empty
  | n + 1 => indE n ++ ⟨#[32, 32]⟩
mutual
/-- A statement's lines. -/
def prS : Nat → Sm → ByteArray
  | lv, .mk k s es t f =>
    if k = 1 then indE lv ++ (s ++ ⟨#[32, 61, 32]⟩) ++ prEs false es ++ ⟨#[59]⟩ ++ ⟨#[10]⟩
    else if k = 2 then match es with
      | [] => ByteArray.empty
      | a :: r => indE lv ++ (s ++ ⟨#[91]⟩) ++ prE a ++ ⟨#[93, 32, 61, 32]⟩ ++ prEs false r ++ ⟨#[59]⟩ ++ ⟨#[10]⟩
    else if k = 3 then indE lv ++ ⟨#[112, 117, 116, 40]⟩ ++ prEs false es ++ ⟨#[41, 59]⟩ ++ ⟨#[10]⟩
    else if k = 6 then indE lv ++ (s ++ ⟨#[40]⟩) ++ prEs false es ++ ⟨#[41, 59]⟩ ++ ⟨#[10]⟩
    else if k = 7 then indE lv ++ ⟨#[114, 101, 116, 117, 114, 110]⟩ ++ (match es with
      | [] => ByteArray.empty
      | a :: r => ⟨#[32]⟩ ++ prEs false (a :: r)) ++ ⟨#[59]⟩ ++ ⟨#[10]⟩
    else indE lv ++ (if k = 5 then ⟨#[119, 104, 105, 108, 101, 32, 40]⟩ else ⟨#[105, 102, 32, 40]⟩) ++ prEs false es ++ ⟨#[41, 32, 123]⟩ ++ ⟨#[10]⟩ ++ prSs (lv + 1) t
      ++ (if f.isEmpty = true then ByteArray.empty else indE lv ++ ⟨#[125, 32, 101, 108, 115, 101, 32, 123]⟩ ++ ⟨#[10]⟩ ++ prSs (lv + 1) f) ++ indE lv ++ ⟨#[125]⟩ ++ ⟨#[10]⟩
def prSs : Nat → List Sm → ByteArray
  | _, [] => ByteArray.empty
  | lv, x :: l => prS lv x ++ prSs lv l
end
/-- A function's lines. -/
def prF (f : Fu) : ByteArray :=
  (⟨#[102, 117, 110, 99, 32]⟩ ++ f.name ++ ⟨#[40]⟩ ++ joinE f.params ⟨#[44, 32]⟩ ++ ⟨#[41]⟩ ++ (if f.word = true then ⟨#[32, 119, 111, 114, 100]⟩ else ByteArray.empty) ++ ⟨#[32, 123]⟩) ++ ⟨#[10]⟩
    ++ (if f.locals = [] then ByteArray.empty else indE 1 ++ (⟨#[118, 97, 114, 32]⟩ ++ joinE f.locals ⟨#[44, 32]⟩ ++ ⟨#[59]⟩) ++ ⟨#[10]⟩) ++ prSs 1 f.body ++ ⟨#[125]⟩ ++ ⟨#[10]⟩
def prA (a : Ar) : ByteArray := (⟨#[97, 114, 114, 97, 121, 32]⟩ ++ a.name ++ ⟨#[91]⟩ ++ decE a.size.toNat ++ ⟨#[93, 59]⟩) ++ ⟨#[10]⟩
def prAs : List Ar → ByteArray
  | [] => ByteArray.empty
  | a :: l => prA a ++ prAs l
def prFs : List Fu → ByteArray
  | [] => ByteArray.empty
  | a :: l => prF a ++ prFs l
/-- A program's text. -/
def prP (p : Pg) : ByteArray := (if p.vars = [] then ByteArray.empty else (⟨#[118, 97, 114, 32]⟩ ++ joinE p.vars ⟨#[44, 32]⟩ ++ ⟨#[59]⟩) ++ ⟨#[10]⟩) ++ prAs p.arrays ++ prFs p.funcs
/-- What the printer asks of an expression: the parts that it looks at are there; of a depth. -/
def okE : Nat → Ex → Prop
  | 0, _ => False
  | d + 1, .mk k o _ _ ks => ks.length ≤ 6 ∧ (k = 6 → 4 ≤ o ∧ o ≤ 15) ∧ (k = 6 ∨ k = 8 ∨ k = 9 → ks.length = 2) ∧ (1 ≤ k ∧ k ≤ 9) ∧ ∀ e ∈ ks, okE d e
def okS : Nat → Sm → Prop
  | 0, _ => False
  | d + 1, .mk k _ es t f => es.length ≤ 6 ∧ (k = 2 → es.length = 2) ∧ (1 ≤ k ∧ k ≤ 7) ∧ t.length ≤ 1000000 ∧ f.length ≤ 1000000 ∧ (k ≠ 4 → f = []) ∧ (k ≠ 4 → k ≠ 5 → t = []) ∧ (∀ e ∈ es, okE d e) ∧ (∀ x ∈ t, okS d x) ∧ ∀ x ∈ f, okS d x
theorem app_nil (a : ByteArray) : a ++ ByteArray.empty = a := by simp
theorem nil_app (a : ByteArray) : ByteArray.empty ++ a = a := by simp
end Go.Proofs.YtddggjmfplohkaaDoor

/- The printer's walks: a tape is handed on. -/
namespace Go.Proofs.YtddggjmfplohkaaDoor
open Go.RowKit
set_option linter.unnecessarySimpa false
/-- A call that is handed a text that is being written. -/
theorem vcCall_bld {C : Ctx} {np : Nat} {f : FuncId} {hp : Nat → HC} {K : Eff → Prop} {r : PV} {T e : TypeId} {s s' : ByteArray} {b off : Nat} {az : List PV} (h : SpecH C f (.ptr 1 off :: az) [.bld T e s] r [.bld T e s']) (ha : az.all PV.plain = true) (h0 : b ≠ 0) (hb : hp b = .bld T e s)
    (hk : K ⟨r, [(b, .bld T e s')], [b]⟩) : vcCall C np f (.ptr b off :: az) hp K := by
  have hpl := List.all_eq_true.1 ha
  refine ⟨[], [b], .ptr 1 off :: az, [.bld T e s], r, [.bld T e s'], ?_, by simp, rfl, fun j hj => ?_, ?_, ?_, fun a h => ?_, h, fun j hj => ?_, hk⟩
  · rw [List.map_cons]
    congr 1
    rw [show az.map (ren [b]) = az.map id from List.map_congr_left fun a h => by
      have := hpl a h
      cases a <;> first | rfl | simp [PV.plain] at this]
    exact List.map_id az
  · have : j = 0 := by simpa using hj
    subst this
    exact ⟨h0, hb⟩
  · intro c hc
    rw [List.mem_singleton.1 hc]; rfl
  · intro c hc
    rw [List.mem_singleton.1 hc]; rfl
  · rcases List.mem_cons.1 h with rfl | h
    · exact .inr (.inl ⟨1, _, rfl, Nat.le_refl 1, Nat.le_refl 1⟩)
    · exact .inl (hpl a h)
  · cases j with
    | zero => rfl
    | succ j => simp [HC.isBld] at hj
set_option maxRecDepth 100000 in
theorem s_end (s x : ByteArray) (h : (s ++ x ++ ⟨#[10]⟩).size ≤ 140737488355328) : SpecH (Ctx.mk Tryd.prog globT 7 LaidT) 64 [.ptr 1 0, .v (.string x)] [tapeB s] (.tup []) [tapeB (s ++ x ++ ⟨#[10]⟩)] := by
  have h1 : s.size + x.size ≤ 140737488355328 := by simp at h; omega
  have h2 : (s ++ x).size + (⟨#[10]⟩ : ByteArray).size ≤ 140737488355328 := by simpa using h
  refine spec_of_bodyH CX_mixed CX_gpk Tryd.func64 rfl 13 1 (fun c hc => by rw [List.mem_singleton.1 hc]; rfl) rfl rfl rfl rfl ?_
  refine go_ ?_
  with_reducible apply run_y
  exact want_
  · intro K hK
    refine ev_ ?_
    refine vcCall_bld (s_write s x h1) (by kernel_rfl) (by decide) rfl ?_
    refine ev_ ?_
    exact hK
  refine go_ ?_
  with_reducible apply run_y
  exact want_
  · intro K hK
    refine ev_ ?_
    refine vcCall_bld (s_write (s ++ x) ⟨#[10]⟩ h2) (by kernel_rfl) (by decide) rfl ?_
    refine ev_ ?_
    exact hK
  refine go_ ?_
  refine ev_ ?_
  exact .mk rfl (And.intro (And.intro rfl (And.intro rfl (by rfl))) trivial)
theorem ind_size (n : Nat) : (indE n).size = 2 * n := by
  induction n with
  | zero => rfl
  | succ n ih => rw [indE, ByteArray.size_append, ih, show (⟨#[32, 32]⟩ : ByteArray).size = 2 from rfl]; omega
theorem ind_step (s : ByteArray) (j : Nat) : s ++ indE j ++ ⟨#[32, 32]⟩ = s ++ indE (j + 1) := by rw [indE, ByteArray.append_assoc]
set_option maxRecDepth 100000 in
theorem s_begin (s x : ByteArray) (n : Nat) (hn : n ≤ 1000) (h : (s ++ indE n ++ x).size ≤ 140737488355328) : SpecH (Ctx.mk Tryd.prog globT 7 LaidT) 34 [.ptr 1 0, .v (.int .i64 (n : Int)), .v (.string x)] [tapeB s] (.tup []) [tapeB (s ++ indE n ++ x)] := by
  rw [ByteArray.size_append, ByteArray.size_append, ind_size] at h
  refine spec_of_bodyH CX_mixed CX_gpk Tryd.func34 rfl 19 1 (fun c hc => by rw [List.mem_singleton.1 hc]; rfl) rfl rfl rfl rfl ?_
  refine go_ ?_
  refine c_loop (fun k q m h => ∃ j : Nat, j ≤ n ∧ k = n - j ∧ q = [.ptr 1 0, .top, .v (.string x), .top, .top, .top, .v (.int .i64 (n : Int)), .v (.int .i64 (j : Int))] ++ List.replicate 11 .top ∧ m = 2 ∧ h = [(1, tapeB (s ++ indE j))])
    ⟨_, _, _, _, ?_, ?_, ⟨0, Nat.zero_le _, rfl, rfl, rfl, rfl⟩⟩ ?_
  · rfl
  · rw [show s ++ indE 0 = s from app_nil s]
    exact sub_
  · rintro k q m h2 hlen ⟨j, hj, rfl, rfl, rfl, rfl⟩
    clear hlen
    refine go_ ?_
    first | refine run_b rfl rfl rfl (fun hb => ?_) (fun hb => ?_) | refine c_cond rfl (fun hb => ?_) (fun hb => ?_)
    · have hj' : j < n := by have := of_decide_eq_true hb; omega
      have hw2 : IntKind.i64.wrap ((j : Int) + 1) = ((j + 1 : Nat) : Int) := by rw [wrap64 (by omega) (by omega)]; omega
      refine go_ ?_
      with_reducible apply run_y
      exact want_
      · intro K hK
        refine ev_ ?_
        refine vcCall_bld (s_write (s ++ indE j) ⟨#[32, 32]⟩ (by rw [ByteArray.size_append, ind_size, show (⟨#[32, 32]⟩ : ByteArray).size = 2 from rfl]; omega)) (by kernel_rfl) (by decide) rfl ?_
        refine ev_ ?_
        exact hK
      refine go_ ?_
      rw [hw2, ind_step]
      refine c_round ⟨_, _, _, _, ?_, ?_, ?_, ⟨j + 1, by omega, rfl, rfl, rfl, rfl⟩⟩
      · omega
      · rfl
      · skip
        exact sub_
    · have hj' : j = n := by have := of_decide_eq_false hb; omega
      subst hj'
      refine go_ ?_
      with_reducible apply run_y
      exact want_
      · intro K hK
        refine ev_ ?_
        refine vcCall_bld (s_write (s ++ indE j) x (by rw [ByteArray.size_append, ind_size]; omega)) (by kernel_rfl) (by decide) rfl ?_
        refine ev_ ?_
        exact hK
      refine go_ ?_
      refine ev_ ?_
      exact .mk rfl (And.intro (And.intro rfl (And.intro rfl (by rfl))) trivial)
set_option maxRecDepth 100000 in
theorem s_line (s x : ByteArray) (n : Nat) (hn : n ≤ 1000) (h : (s ++ indE n ++ x ++ ⟨#[10]⟩).size ≤ 140737488355328) : SpecH (Ctx.mk Tryd.prog globT 7 LaidT) 13 [.ptr 1 0, .v (.int .i64 (n : Int)), .v (.string x)] [tapeB s] (.tup []) [tapeB (s ++ indE n ++ x ++ ⟨#[10]⟩)] := by
  rw [ByteArray.size_append] at h
  refine spec_of_bodyH CX_mixed CX_gpk Tryd.func13 rfl 14 1 (fun c hc => by rw [List.mem_singleton.1 hc]; rfl) rfl rfl rfl rfl ?_
  refine go_ ?_
  with_reducible apply run_y
  exact want_
  · intro K hK
    refine ev_ ?_
    refine vcCall_bld (s_begin s x n hn (by omega)) (by kernel_rfl) (by decide) rfl ?_
    refine ev_ ?_
    exact hK
  refine go_ ?_
  with_reducible apply run_y
  exact want_
  · intro K hK
    refine ev_ ?_
    refine vcCall_bld (s_write (s ++ indE n ++ x) ⟨#[10]⟩ h) (by kernel_rfl) (by decide) rfl ?_
    refine ev_ ?_
    exact hK
  refine go_ ?_
  refine ev_ ?_
  exact .mk rfl (And.intro (And.intro rfl (And.intro rfl (by rfl))) trivial)
def exV (k o : Int) (n : UInt32) (s : ByteArray) (ks : List Ex) : List PV := [.v (.int .i64 k), .v (.int .i64 o), .v (.int .u32 n.toNat), .v (.string s), .sl .any (exsC ks)]
theorem signs_at {o : Int} (h1 : 4 ≤ o) (h2 : o ≤ 15) : ∃ j : Nat, o - 4 = (j : Int) ∧ j < 12 ∧ signsP.drop j = .v (.string (opE o)) :: signsP.drop (j + 1) := by
  obtain ⟨j, rfl⟩ : ∃ j : Nat, o = (j : Int) + 4 := ⟨(o - 4).toNat, by omega⟩
  have hj : j < 12 := by omega
  refine ⟨j, by omega, hj, ?_⟩
  have e : opE ((j : Int) + 4) = signsL.getD j ByteArray.empty := by
    unfold opE
    rw [if_pos (by omega), show ((j : Int) + 4 - 4).toNat = j by omega]
  rw [e]
  match j, hj with
  | 0, _ => rfl
  | 1, _ => rfl
  | 2, _ => rfl
  | 3, _ => rfl
  | 4, _ => rfl
  | 5, _ => rfl
  | 6, _ => rfl
  | 7, _ => rfl
  | 8, _ => rfl
  | 9, _ => rfl
  | 10, _ => rfl
  | 11, _ => rfl
set_option maxRecDepth 100000 in
theorem s_sign (k o : Int) (n : UInt32) (s : ByteArray) (ks : List Ex) (ho : k ≠ 8 → k ≠ 9 → 4 ≤ o ∧ o ≤ 15) : Spec (Ctx.mk Tryd.prog globT 7 LaidT) 92 [.agg (exV k o n s ks)] [] (.v (.string (sgE k o))) [] := by
  refine spec_of_bodyL CX_mixed CX_gpk Tryd.func92 rfl 14 0 rfl rfl rfl rfl ?_
  refine go_ ?_
  by_cases h8 : k = 8
  · subst h8
    refine go_ ?_
    refine ev_ ?_
    exact .mk (by rfl) trivial
  · by_cases h9 : k = 9
    · subst h9
      refine go_ ?_
      refine ev_ ?_
      exact .mk (by rfl) trivial
    · obtain ⟨h1, h2⟩ := ho h8 h9
      have g8 : (k == 8) = false := by simpa using h8
      have g9 : (k == 9) = false := by simpa using h9
      obtain ⟨j, hj, hj12, hat⟩ := signs_at h1 h2
      have hw : IntKind.i64.wrap (o - 4) = (j : Int) := by rw [wrap64 (by omega) (by omega)]; exact hj
      have hs : sgE k o = opE o := by unfold sgE; rw [if_neg h8, if_neg h9]
      rw [hs]
      refine go_ ?_
      rw [hw]
      with_reducible apply run_y
      exact want_
      · intro K hK
        refine ev_ ?_
        refine ⟨j, rfl, hj12, ?_⟩
        refine ev_ ?_
        exact hK
      conv =>
        pattern (occs := *) (List.drop (j * _) signsP)
        all_goals change List.drop (j * 1) signsP
      rw [Nat.mul_one, hat]
      refine go_ ?_
      refine ev_ ?_
      exact .mk (by rfl) trivial
end Go.Proofs.YtddggjmfplohkaaDoor
