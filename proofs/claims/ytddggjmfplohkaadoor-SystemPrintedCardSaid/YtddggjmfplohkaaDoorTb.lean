import Derived.Test.YtddggjmfplohkaaDoorTa
import Derived.Shelf.Strings.Builder2
import Derived.Shelf.Strings.BuilderK
/- A strings.Builder in a block of whatever type: copyCheck, WriteString, String; just which blocks they touch. -/
namespace Go.Proofs.YtddggjmfplohkaaDoor
open Go Go.Shelf Go.RowKit
/-- Where the shelf's numbers of strings.Builder's functions and types lie in this program. -/
def jr : Ren where
  f
    | 156 => 14
    | 165 => 36
    | 166 => 35
    | 169 => 17
    | 240 => 61
    | 241 => 62
    | 276 => 78
    | 277 => 79
    | x => x
  t
    | 0 => 0
    | 3 => 3
    | 4 => 4
    | 5 => 5
    | 9 => 9
    | 20 => 20
    | 31 => 22
    | 37 => 42
    | 70 => 41
    | 72 => 44
    | 75 => 74
    | 76 => 75
    | 80 => 56
    | 127 => 84
    | 164 => 108
    | x => x
  g x := x
theorem jl166 : Lays.n166 Tryd.prog jr := by
  constructor <;> (first | kernel_rfl | (intro w; kernel_rfl))
theorem jl169 : Lays.n169 Tryd.prog jr := by
  constructor <;> (first | kernel_rfl | (intro w; kernel_rfl))
theorem jx72 : Builder.X72 Tryd.prog jr := by
  constructor <;> (first | kernel_rfl | decide)
theorem jx : Builder.Extra Tryd.prog jr where
  toX72 := jx72
  t5 := by kernel_rfl
  a5 := by intro w; kernel_rfl
  z5 := by intro w; kernel_rfl
  v5 := by intro w; kernel_rfl
  infoByte := by kernel_rfl
  cellsByte := by kernel_rfl
  sizeByte := by kernel_rfl
  neB5 := by decide
section
variable {P : Program} {ρ : Ren}
/-- What a call that is handed a builder's block leaves. -/
structure KeptB (w w' : World) (b : Nat) (v v' : Value) : Prop where
  os : w'.os = w.os
  tape : w'.tape = w.tape
  output : w'.output = w.output
  size : w.heap.size ≤ w'.heap.size
  block : ∀ k, k < w.heap.size → k ≠ b → v.ownBlock ≠ some k → w'.heap[k]? = w.heap[k]?
  buf : ∀ k, v'.ownBlock = some k → v.ownBlock = some k ∨ w.heap.size ≤ k
/-- Bytes are appended to a builder's buffer: which block it lies in behind it. -/
theorem run_app (w : World) (t u ty e : TypeId) (i : TypeInfo) (ht : P.underlying t = some (.slice e)) (hu : P.underlying u = some .string) (hi : P.info? e = some i) (hz : i.zero = some (.int .u8 0)) (hsize : i.size = 1) (hby : i.bytes = 1)
    (v : Value) (n : Nat) (xs : List Value) (hown : w.ownsRowF 0 e 1 v n xs) (s : ByteArray) (hb : n + s.size ≤ 140737488355328) :
    ∃ v' w', (Builtin.append_ #[t, u] ty #[v, .string s]).run P w = .ok v' w' ∧ w'.ownsRowF 0 e 1 v' (n + s.size) (xs ++ Lib.strCells s) ∧ w.grownBy w' v.ownBlock ∧ ∀ k, v'.ownBlock = some k → v.ownBlock = some k ∨ w.heap.size ≤ k := by
  have h63 : n + s.size ≤ maxLen := by unfold maxLen; omega
  obtain ⟨v', w', h1, h2, h3, _⟩ := Lib.run_append_own_stringF (P := P) w 0 t u ty e i ht hu hi hz hsize hby v n xs hown s h63 hb (Nat.zero_le _)
  refine ⟨v', w', h1, h2, h3, ?_⟩
  rcases hown.2 with ⟨rfl, rfl⟩ | ⟨g, cap, cur, fz, rfl, hbg, hg, hfz, hnc, hcm, hcs, htake⟩
  · obtain ⟨v2, w2, q1, q2, _⟩ := Lib.run_append_own_string (P := P) w w.heap.size t u ty e i ht hu hi hz hsize hby (.slice none 0 0) 0 xs ⟨hown.1, .inl ⟨rfl, rfl⟩⟩ s h63 hb (Nat.le_refl _)
    rw [h1] at q1
    injection q1 with q1 q1'
    subst q1 q1'
    intro k hk
    rcases q2.2 with ⟨rfl, _⟩ | ⟨g, cap, cur, rfl, hbg, _⟩
    · simp [Value.ownBlock] at hk
    · simp only [Value.ownBlock, Option.some.injEq] at hk
      exact .inr (hk ▸ hbg)
  · by_cases hroom : n + s.size ≤ cap
    · have hr := Lib.run_append_room_stringF (P := P) w t u ty e i ht hu hi hsize g n cap cur fz hg (by simpa using hfz) s hroom (by omega)
      rw [h1] at hr
      injection hr with hr _
      subst hr
      exact fun k hk => .inl (by simpa [Value.ownBlock] using hk)
    · have hxl : xs.length = n := by simpa using hown.1
      have holds : ∀ j u, xs[j]? = some u → w.cell? ((⟨g, 0, none⟩ : Addr).add j) = some u := hown.cells (g := g) rfl
      have hr := Lib.run_append_grow_string (P := P) w t u ty e i (.int .u8 0) ht hu hi hz ⟨g, 0, none⟩ n cap xs (by rw [hsize]; simpa using hxl) holds s (by omega) (by omega) (by rw [hby]; exact growslice_fits (by omega) (by omega))
      rw [h1] at hr
      injection hr with hr _
      subst hr
      intro k hk
      simp only [Value.ownBlock, Option.some.injEq] at hk
      exact .inr (by omega)
theorem wpList_app {ops : Array Oper} {rest : List Oper} {o : Oper} {a : Act} {Q : Exit → Act → World → Prop} {w : World} (hgd : o.guard = none) (sl x : Operand) (t u : TypeId)
    (ho : o.op = .call { callee := .builtin .append, args := #[sl, x], argTypes := #[t, u] })
    (e : TypeId) (i : TypeInfo) (ht : P.underlying t = some (.slice e)) (hu : P.underlying u = some .string) (hi : P.info? e = some i) (hz : i.zero = some (.int .u8 0)) (hsize : i.size = 1) (hby : i.bytes = 1)
    (v : Value) (n : Nat) (xs : List Value) (hs : a.eval sl = v) (hown : w.ownsRowF 0 e 1 v n xs) (s : ByteArray) (hx : a.eval x = .string s) (hbytes : n + s.size ≤ 140737488355328)
    (h : ∀ v' w', w'.ownsRowF 0 e 1 v' (n + s.size) (xs ++ Lib.strCells s) → w.grownBy w' v.ownBlock → (∀ k, v'.ownBlock = some k → v.ownBlock = some k ∨ w.heap.size ≤ k) → wpList P ops Q rest (a.put o.dst v') w') : wpList P ops Q (o :: rest) a w := by
  refine wpList_plain hgd fun K hK => ?_
  obtain ⟨v', w', hr, h2, h3, h4⟩ := run_app (P := P) w t u o.type e i ht hu hi hz hsize hby v n xs hown s hbytes
  unfold Oper.wp execOp
  simp only [ho, resolve, invoke, builtin, Sem.run_bind, Sem.run_pure, Result.andThen_ok, List.map_toArray, List.map_cons, List.map_nil, hs, hx, hr]
  exact hK _ _ (h v' w' h2 h3 h4)
set_option maxHeartbeats 2000000 in
set_option maxRecDepth 100000 in
/-- copyCheck of a builder that wasn't written yet, in a block of type T at whose beginning a builder lies. -/
theorem copyCheck_T (L : Lays.n240 P ρ) (X : Builder.X72 P ρ) {T : TypeId} (hl : liesAt P P.depth T (2 / P.cellsOf T) 0 (ρ.t 72) 1 = true) (b : Nat) (w : World) (h0 : w.cell? ⟨b, 0, none⟩ = some (.pointer none)) (hsh : w.shape? b = some (T, 2)) (hfz : w.frozen? ⟨b, 0, none⟩ = false) :
    Calls P (ρ.f 240) #[.pointer (some ⟨b, 0, none⟩)] w fun e w' => e = .returned (.tuple #[]) ∧ w' = w.setCell ⟨b, 0, none⟩ (.pointer (some ⟨b, 0, none⟩)) := by
  obtain ⟨j, hj, hjs⟩ := Option.map_eq_some_iff.1 X.sizeBuilder
  have mixed := L.mixed
  have t72 := L.t72; have a72 := L.a72; have z72 := L.z72; have v72 := L.v72; have u72 := run_underlying L.t72
  have t70 := L.t70; have a70 := L.a70; have z70 := L.z70; have v70 := L.v70; have u70 := run_underlying L.t70
  have t9 := L.t9; have a9 := L.a9; have z9 := L.z9; have v9 := L.v9; have u9 := run_underlying L.t9
  have t4 := L.t4; have a4 := L.a4; have z4 := L.z4; have v4 := L.v4; have u4 := run_underlying L.t4
  have t164 := L.t164; have a164 := L.a164; have z164 := L.z164; have v164 := L.v164; have u164 := run_underlying L.t164
  go_enter L.f240, Body.n240_ntmps ρ
  go_wp2
  rw [Lib.run_to_unsafe w ⟨b, 0, none⟩ L.t70 L.t164 hj (by rw [hjs]; decide) hsh (Nat.zero_lt_succ 1)]
  simp only [Result.andThen]
  rw [Oper.upon_value]
  go_wp2
  rw [run_callFunc_extern L.f276 (by kernel_rfl) (by kernel_rfl) (by kernel_rfl) (e := Extern.AbiNoEscape.same) (by kernel_rfl)]
  rw [Lib.run_noEscape]
  simp only [Result.andThen]
  rw [Oper.upon_value]
  go_wp2
  rw [Lib.run_from_unsafe w ⟨b, 0, none⟩ L.t164 L.t70 hj hsh hl]
  simp only [Result.andThen]
  rw [Oper.upon_value]
  go_wp2
  go_end0
  exact ⟨rfl, rfl⟩
theorem byteVs_app (s x : ByteArray) : byteVs (s ++ x) = byteVs s ++ Lib.strCells x := by simp [byteVs, Lib.strCells]
/-- Behind copyCheck: the builder's address stands in it. -/
theorem checked_T (L : Lays.n240 P ρ) (X : Builder.X72 P ρ) {T : TypeId} (hl : liesAt P P.depth T (2 / P.cellsOf T) 0 (ρ.t 72) 1 = true) (b : Nat) (s : ByteArray) (v : Value) (w : World) (h : BldC w b T (ρ.t 5) s v) :
    Calls P (ρ.f 240) #[.pointer (some ⟨b, 0, none⟩)] w fun e w' => e = .returned (.tuple #[]) ∧ (∃ fr, w'.heap[b]? = some (.cells #[.pointer (some ⟨b, 0, none⟩), v] T fr) ∧ ∀ i, i < 2 → (decide (fr.1 ≤ i) && decide (i < fr.2)) = false) ∧ w.grownBy w' (some b) ∧ w'.heap.size = w.heap.size := by
  obtain ⟨p, fr, h1, h2, h3, h4, h5⟩ := h
  rcases h3 with rfl | rfl
  · refine (copyCheck_T L X hl b w (by rw [Lib.cell_of_heap h1]; rfl) (by simp [World.shape?, h1]) (by have := h2 0 (by decide); simpa [World.frozen?, h1] using this)).mono ?_
    rintro e w' ⟨rfl, rfl⟩
    have e1 := setCell_eq_setRow w b 0 #[.pointer none, v] T fr (.pointer (some ⟨b, 0, none⟩)) h1
    rw [e1]
    refine ⟨rfl, ⟨fr, setRow_heap w b _ _ T _ h1, h2⟩, ⟨rfl, rfl, rfl, by simp, fun k _ hk => setRow_other w b k _ (fun e => hk (by rw [e]))⟩, by simp⟩
  · refine (Any.Builder_copyCheck_used L X b w (by rw [Lib.cell_of_heap h1]; rfl)).mono ?_
    rintro e w' ⟨rfl, rfl⟩
    exact ⟨rfl, ⟨fr, h1, h2⟩, ⟨rfl, rfl, rfl, Nat.le_refl _, fun _ _ _ => rfl⟩, rfl⟩
set_option maxHeartbeats 2000000 in
set_option maxRecDepth 100000 in
/-- WriteString. -/
theorem write_T (L : Lays.n166 P ρ) (X : Builder.Extra P ρ) {T : TypeId} (hl : liesAt P P.depth T (2 / P.cellsOf T) 0 (ρ.t 72) 1 = true) (b : Nat) (s x : ByteArray) (v : Value) (w : World) (h : BldC w b T (ρ.t 5) s v) (hlen : s.size + x.size ≤ 140737488355328) :
    Calls P (ρ.f 166) #[.pointer (some ⟨b, 0, none⟩), .string x] w fun e w' => e = .returned (.tuple #[.int .i64 x.size, .nilIface]) ∧ ∃ v', BldC w' b T (ρ.t 5) (s ++ x) v' ∧ KeptB w w' b v v' := by
  obtain ⟨i0, hi, hz0, hz1, hz2⟩ := info_parts X.infoByte
  have mixed := L.mixed
  have t72 := L.t72; have a72 := L.a72; have z72 := L.z72; have v72 := L.v72; have u72 := run_underlying L.t72
  have t70 := L.t70; have a70 := L.a70; have z70 := L.z70; have v70 := L.v70; have u70 := run_underlying L.t70
  have t37 := L.t37; have a37 := L.a37; have z37 := L.z37; have v37 := L.v37; have u37 := run_underlying L.t37
  have t3 := L.t3; have a3 := L.a3; have z3 := L.z3; have v3 := L.v3; have u3 := run_underlying L.t3
  have t9 := L.t9; have a9 := L.a9; have z9 := L.z9; have v9 := L.v9; have u9 := run_underlying L.t9
  have t4 := L.t4; have a4 := L.a4; have z4 := L.z4; have v4 := L.v4; have u4 := run_underlying L.t4
  have t164 := L.t164; have a164 := L.a164; have z164 := L.z164; have v164 := L.v164; have u164 := run_underlying L.t164
  have t5 := X.t5; have a5 := X.a5; have z5 := X.z5; have v5 := X.v5; have u5 := run_underlying X.t5
  have e240 : ∀ args w, (callFunc (ρ.f 240) args).run P w = .ok (.enter (ρ.f 240) args) w := enters_of L.f240 (by kernel_rfl) rfl
  go_enter L.f166, Body.n166_ntmps ρ
  go_wp2_with (go_at_fn (ρ.f 240); refine (checked_T { L with } X.toX72 hl b s v _ h).mono ?_)
  rintro e w1 ⟨rfl, ⟨fr, hbk, hfr⟩, hg1, hs1⟩
  obtain ⟨p, fr0, k1, k2, k3, hown0, hne⟩ := h
  have hown : w1.ownsRowF 0 (ρ.t 5) 1 v s.size (byteVs s) := by
    refine ⟨hown0.1, ?_⟩
    rcases hown0.2 with hn | ⟨g, cap, cur, fz, rfl, hb, hgg, rest⟩
    · exact .inl hn
    · refine .inr ⟨g, cap, cur, fz, rfl, hb, (hg1.block g (by
        rcases Nat.lt_or_ge g w.heap.size with h' | h'
        · exact h'
        · simp [Array.getElem?_eq_none h'] at hgg) (fun e => hne (by simpa [Value.ownBlock] using e))).trans hgg, rest⟩
  have c0 : w1.cell? ⟨b, 0, none⟩ = some (.pointer (some ⟨b, 0, none⟩)) := by rw [Lib.cell_of_heap hbk]; rfl
  have c1 : w1.cell? ⟨b, 1, none⟩ = some v := by rw [Lib.cell_of_heap hbk]; rfl
  go_wp2_with (at_builtin; refine wpList_app rfl _ _ (ρ.t 37) (ρ.t 9) rfl (ρ.t 5) i0 L.t37 L.t9 hi hz0 hz1 hz2 _ _ _ rfl hown x rfl ?c4 ?_)
  case c4 => omega
  intro v' w2 hown' hgrow hbuf
  have hlt : b < w1.heap.size := by
    rcases Nat.lt_or_ge b w1.heap.size with h' | h'
    · exact h'
    · simp [Array.getElem?_eq_none h'] at hbk
  have hb2 : w2.heap[b]? = some (.cells #[.pointer (some ⟨b, 0, none⟩), v] T fr) := by
    rw [hgrow.block b hlt (fun e => hne e.symm)]
    exact hbk
  have d0 : w2.cell? ⟨b, 0, none⟩ = some (.pointer (some ⟨b, 0, none⟩)) := by rw [Lib.cell_of_heap hb2]; rfl
  have d1 : w2.cell? ⟨b, 1, none⟩ = some v := by rw [Lib.cell_of_heap hb2]; rfl
  have f1 : w2.frozen? ⟨b, 1, none⟩ = false := by have := hfr 1 (by decide); simpa [World.frozen?, hb2] using this
  obtain ⟨ao, n', cap, rfl⟩ : ∃ ao n' cap, v' = .slice ao n' cap := by
    rcases hown'.2 with ⟨hv, _⟩ | ⟨g, cap, cur, fz, hv, _⟩
    · exact ⟨_, _, _, hv⟩
    · exact ⟨_, _, _, hv⟩
  go_wp2
  go_ret2
  have e1 := setCell_eq_setRow w2 b 1 #[.pointer (some ⟨b, 0, none⟩), v] T fr (.slice ao n' cap) hb2
  have hne' : (Value.slice ao n' cap).ownBlock ≠ some b := fun e => by
    rcases hbuf b e with h | h
    · exact hne h
    · omega
  refine ⟨rfl, _, ⟨.pointer (some ⟨b, 0, none⟩), fr, ?_, hfr, .inr rfl, ?_, hne'⟩, ⟨?_, ?_, ?_, ?_, fun k hk hkb hkv => ?_, fun k hk => ?_⟩⟩
  · rw [e1]; exact setRow_heap w2 b _ _ T _ hb2
  · rw [ByteArray.size_append, byteVs_app]
    refine ⟨hown'.1, ?_⟩
    rcases hown'.2 with hn | ⟨g, cap', cur, fz, hv, hb, hgg, rest⟩
    · exact .inl hn
    · refine .inr ⟨g, cap', cur, fz, hv, hb, ?_, rest⟩
      rw [e1, setRow_other w2 b g _ (fun e => hne' (by rw [hv]; simp [Value.ownBlock, e]))]
      exact hgg
  · rw [e1]; exact hgrow.os.trans hg1.os
  · rw [e1]; exact hgrow.tape.trans hg1.tape
  · rw [e1]; exact hgrow.output.trans hg1.output
  · rw [e1]
    have := hgrow.size
    simp only [setRow_size]
    omega
  · rw [e1, setRow_other w2 b k _ hkb, hgrow.block k (by omega) (fun e => hkv e.symm)]
    exact hg1.block k hk (fun e => hkb (by simpa using e))
  · rcases hbuf k hk with h | h
    · exact .inl h
    · exact .inr (by omega)
theorem BldC.froze {w : World} {b : Nat} {T e : TypeId} {s : ByteArray} {g cap : Nat} (h : BldC w b T e s (.slice (some ⟨g, 0, none⟩) s.size cap)) : BldC (w.freeze ⟨g, 0, none⟩ s.size) b T e s (.slice (some ⟨g, 0, none⟩) s.size cap) := by
  obtain ⟨p, fr, h1, h2, h3, hown, hne⟩ := h
  have hgb : g ≠ b := fun e => hne (by simp [Value.ownBlock, e])
  unfold World.freeze
  split
  · exact ⟨p, fr, h1, h2, h3, hown, hne⟩
  · refine ⟨p, fr, ?_, h2, h3, ⟨hown.1, ?_⟩, hne⟩
    · simp only [Array.getElem?_modify]
      rw [if_neg hgb]
      exact h1
    · rcases hown.2 with ⟨hv, _⟩ | ⟨g', cap', cur, fz, hv, hbg, hg, hfz, rest⟩
      · cases hv
      · injection hv with ha _ hcap
        injection ha with ha
        injection ha with hgg _ _
        subst hgg
        subst hcap
        obtain ⟨lo, hi⟩ := fz
        refine .inr ⟨g, _, cur, (if lo == hi then (0, 0 + s.size) else (min lo 0, max hi (0 + s.size))), rfl, hbg, ?_, ?_, rest⟩
        · simp [Array.getElem?_modify, hg]
        · simp only at hfz
          split <;> simp <;> omega
set_option maxHeartbeats 2000000 in
set_option maxRecDepth 100000 in
/-- String, of a builder that holds something. -/
theorem string_T (L : Lays.n169 P ρ) (X : Builder.Extra P ρ) {T : TypeId} (b : Nat) (s : ByteArray) (v : Value) (w : World) (h : BldC w b T (ρ.t 5) s v) (h0 : s.size ≠ 0) :
    Calls P (ρ.f 169) #[.pointer (some ⟨b, 0, none⟩)] w fun e w' => e = .returned (.string s) ∧ ∃ v', BldC w' b T (ρ.t 5) s v' ∧ KeptB w w' b v v' := by
  obtain ⟨g, cap, cur, fz, rfl, hg, hfz, hnc, hcm, hcs, htake⟩ : ∃ g cap cur fz, v = .slice (some ⟨g, 0, none⟩) s.size cap ∧ w.heap[g]? = some (.cells cur (ρ.t 5) fz) ∧ fz.2 ≤ s.size * 1 ∧ s.size ≤ cap ∧ cap ≤ maxLen ∧ cur.size = cap * 1 ∧ cur.toList.take (s.size * 1) = byteVs s := by
    obtain ⟨_, _, _, _, _, hown, _⟩ := h
    rcases hown.2 with ⟨_, hz⟩ | ⟨g, cap, cur, fz, hv, _, r⟩
    · exact absurd hz h0
    · exact ⟨g, cap, cur, fz, hv, r⟩
  have hkeep := BldC.froze (h := (show BldC w.drew b T (ρ.t 5) s _ from h))
  obtain ⟨p, fr, hbk, _, _, hown, hne⟩ := h
  have c1 : w.drew.cell? ⟨b, 1, none⟩ = some (.slice (some ⟨g, 0, none⟩) s.size cap) := by
    have : w.drew.heap[b]? = some (.cells #[p, .slice (some ⟨g, 0, none⟩) s.size cap] T fr) := hbk
    rw [Lib.cell_of_heap this]; rfl
  have hSD : (Builtin.unsafeSliceData_ #[(ρ.t 37)] (ρ.t 127) #[.slice (some ⟨g, 0, none⟩) s.size cap]).run P w.drew = .ok (.pointer (some ⟨g, 0, none⟩)) w.drew :=
    Lib.run_unsafeSliceData_row _ _ _ _ _ _ (by omega)
  have hl : s.data.toList.length = s.size := Array.length_toList
  have hs : (⟨s.data.toList.toArray⟩ : ByteArray) = s := by simp
  have hUS : (Builtin.unsafeString_ #[(ρ.t 127), (ρ.t 3)] (ρ.t 9) #[.pointer (some ⟨g, 0, none⟩), .int .i64 s.size]).run P w.drew = .ok (.string s) (w.drew.freeze ⟨g, 0, none⟩ s.size) := by
    have := Lib.run_unsafeString_row (P := P) w.drew (ρ.t 127) (ρ.t 3) (ρ.t 9) (ρ.t 5) L.t127 X.cellsByte g cur.size (by have hg' : w.drew.heap[g]? = some (.cells cur (ρ.t 5) fz) := hg; simp [World.shape?, hg']) s.data.toList (fun e => h0 (by rw [← hl, e]; rfl)) (by omega) (by unfold maxLen at hcm; omega) (by
      intro j x hx
      have := hown.cells (g := g) rfl j (.int .u8 x.toNat) (by unfold byteVs; rw [List.getElem?_map, hx]; rfl)
      exact this)
    rw [hl, hs] at this
    exact this
  have mixed := L.mixed
  have t72 := L.t72; have a72 := L.a72; have z72 := L.z72; have v72 := L.v72; have u72 := run_underlying L.t72
  have t70 := L.t70; have a70 := L.a70; have z70 := L.z70; have v70 := L.v70; have u70 := run_underlying L.t70
  have t37 := L.t37; have a37 := L.a37; have z37 := L.z37; have v37 := L.v37; have u37 := run_underlying L.t37
  have t127 := L.t127; have a127 := L.a127; have z127 := L.z127; have v127 := L.v127; have u127 := run_underlying L.t127
  have t3 := L.t3; have a3 := L.a3; have z3 := L.z3; have v3 := L.v3; have u3 := run_underlying L.t3
  have t9 := L.t9; have a9 := L.a9; have z9 := L.z9; have v9 := L.v9; have u9 := run_underlying L.t9
  have t5 := X.t5; have a5 := X.a5; have z5 := X.z5; have v5 := X.v5; have u5 := run_underlying X.t5
  have hfin : KeptB w (w.drew.freeze ⟨g, 0, none⟩ s.size) b (.slice (some ⟨g, 0, none⟩) s.size cap) (.slice (some ⟨g, 0, none⟩) s.size cap) := by
    unfold World.freeze
    rw [if_neg h0]
    refine ⟨rfl, rfl, rfl, by simp, fun k hk hkb hkv => ?_, fun k hk => .inl hk⟩
    simp only [Array.getElem?_modify]
    rw [if_neg (fun e => hkv (by simp [Value.ownBlock, e]))]
    rfl
  go_enter L.f169, Body.n169_ntmps ρ
  go_wp2
  go_region_o
  all_goals (go_wp2; go_ret; exact ⟨rfl, _, hkeep, hfin⟩)
end
/-- A contract of a method of a builder as a saying: the builder is a box. -/
theorem spec_bld {C : Ctx} {f : FuncId} {T e : TypeId} {s s' : ByteArray} {ys : List Value} {z : Value} {r : PV} (hr : r.plain = true) (hx : ∀ E, Rep E r z)
    (h : ∀ (w : World) (b : Nat) (v : Value), BldC w b T e s v → Calls C.P f (.pointer (some ⟨b, 0, none⟩) :: ys).toArray w fun en w' => en = .returned z ∧ ∃ v', BldC w' b T e s' v' ∧ KeptB w w' b v v') :
    SpecH C f (.ptr 1 0 :: ys.map .v) [.bld T e s] r [.bld T e s'] := by
  intro w F β vs hgp hgs hglob hargs hbox hF hFβ hβ hinj hb
  obtain ⟨g, v, e1, e2, e3⟩ := hb.1 0 T e s rfl
  have hvs : vs = (.pointer (some ⟨g, 0, none⟩) :: ys).toArray := by
    obtain ⟨hl, ha⟩ := hargs
    apply Array.ext
    · simpa using hl.symm
    · intro i hi hj
      have h1 := ha i (by rw [hl]; exact hi)
      simp only [Array.getD, hi, dite_true] at h1
      cases i with
      | zero =>
        obtain ⟨g', hz, hg'⟩ := Rep.ptr_inv h1
        have : some g' = some g := hg'.symm.trans e1
        injection this with this
        subst this
        simpa using hz
      | succ i =>
        have hi' : i < ys.length := by simpa using hj
        have e4 : (PV.ptr 1 0 :: ys.map .v).getD (i + 1) .top = .v ys[i] := by simp [List.getD, hi']
        rw [e4] at h1
        have := h1.v_eq
        simpa using this
  subst hvs
  refine (h w g v e2).mono ?_
  rintro en w' ⟨rfl, v', q1, q2⟩
  refine ⟨z, F, rfl, q2.os, q2.tape, q2.output, q2.size, fun k hk hkb hkv => q2.block k hk (fun x => hkb 1 (x ▸ e1)) (fun x => hkv ⟨0, T, e, s, g, v, rfl, e1, e2, x⟩), fun _ _ h => h, fun _ _ h => .inl h, hr, hx _, rfl, fun j hj => ?_, fun j T' e' s2 hj => ?_⟩
  · have : j = 0 := by simpa using hj
    subst this
    exact ⟨g, e1, fun i => hFβ 1 g i e1⟩
  · cases j with
    | succ j => simp at hj
    | zero =>
      simp only [List.getD_cons_zero, HC.bld.injEq] at hj
      obtain ⟨rfl, rfl, rfl⟩ := hj
      refine ⟨g, v', e1, q1, fun k hk => ?_⟩
      rcases q2.buf k hk with hk' | hk'
      · exact ⟨.inr ⟨0, T, e, s, g, v, rfl, e1, e2, hk'⟩, (e3 k hk').2.1, (e3 k hk').2.2⟩
      · exact ⟨.inl hk', fun i hi => by have := hF k i hi; omega, fun b hb => by have := (hβ b k hb).2.2.2; omega⟩
theorem lies_tape : liesAt Tryd.prog Tryd.prog.depth 46 (2 / Tryd.prog.cellsOf 46) 0 44 1 = true := by kernel_rfl
/-- A tape that holds a text. -/
abbrev tapeB (s : ByteArray) : HC := .bld 46 5 s
theorem s_write (s x : ByteArray) (h : s.size + x.size ≤ 140737488355328) : SpecH (Ctx.mk Tryd.prog globT 7 LaidT) 35 [.ptr 1 0, .v (.string x)] [tapeB s] (.tup [.v (.int .i64 x.size), .v .nilIface]) [tapeB (s ++ x)] :=
  spec_bld (C := (Ctx.mk Tryd.prog globT 7 LaidT)) (ys := [.string x]) rfl (fun _ => .tup _ _ rfl fun i hi => by
    have hi : i < 2 := hi
    match i, hi with
    | 0, _ => exact .v _
    | 1, _ => exact .v _) fun w b v hb => write_T jl166 jx lies_tape b s x v w hb h
theorem s_text (s : ByteArray) (h : s.size ≠ 0) : SpecH (Ctx.mk Tryd.prog globT 7 LaidT) 17 [.ptr 1 0] [tapeB s] (.v (.string s)) [tapeB s] :=
  spec_bld (C := (Ctx.mk Tryd.prog globT 7 LaidT)) (ys := []) rfl (fun _ => .v _) fun w b v hb => string_T jl169 jx b s v w hb h
end Go.Proofs.YtddggjmfplohkaaDoor
