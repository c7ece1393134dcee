import Derived.Test.YtddggjmfplohkaaDoorB1
import Derived.ProofKit
import Derived.LaidMore
import Derived.OpenShut
import Derived.Stop.Joined
import Derived.Carry
/- The frame of every law's row of this seat: arguments opened, the listed variable read, the row closed from a walk; no law is named here. -/
namespace Go.Proofs.YtddggjmfplohkaaDoor
open Go.ChangeShapes Go.WideShapes Go.ChangeAt Go.WideMaps Go.WideElems Go.RowKit
section
variable {H : Type} {enc : TypeId × Value → H} {P : Program}
theorem open_D {w : World} {base : Nat} {spare : Nat → Bool} {held : Bool} {r : Reach} {b0 : Nat} {t e : TypeId} {v : Value} {d : DataW H} {p : List MemPlace} (ht : P.underlying t = some (.array 4 e)) (he : P.underlying e = some (.int .u32)) (hce : P.cellsOf e = 1) (hct : P.cellsOf t = 4)
    (hv : Value.okWide P w r b0 t v) (h : DataW.Trod enc P w base spare held t v d p) : ∃ x : D, v = .agg (us x.1) := by
  simp only [Value.okWide, ht] at hv
  obtain ⟨cs, rfl, hsz, _⟩ := hv
  rw [hct] at hsz
  obtain ⟨fuel, hf⟩ := h
  obtain ⟨xs, m, _, _, _, hn, hel⟩ := DataW.trod_array ht hf
  have get : ∀ i, i < 4 → ∃ x : UInt32, cs[i]? = some (u x) := by
    intro i hi
    have h1 := hel i hi
    rw [hce, Nat.mul_one] at h1
    have hci : i < cs.size := by omega
    have e1 : ((Value.agg cs).cells.toList.drop i).take 1 = [cs[i]] := by
      show (cs.toList.drop i).take 1 = _
      rw [List.drop_eq_getElem_cons (by simpa using hci)]
      simp
    rw [e1, List.getElem?_eq_getElem (by omega)] at h1
    obtain ⟨k, e2, _, hwf⟩ := DataW.trod_int he h1
    have hb := bounds_u32 hwf
    refine ⟨UInt32.ofNat k.toNat, ?_⟩
    rw [Array.getElem?_eq_getElem hci]
    simp only [List.cons.injEq, and_true] at e2
    rw [e2]
    have : ((UInt32.ofNat k.toNat).toNat : Int) = k := by
      rw [UInt32.toNat_ofNat', Nat.mod_eq_of_lt (by omega)]; omega
    exact congrArg some (val_int this.symm)
  obtain ⟨x0, h0⟩ := get 0 (by omega)
  obtain ⟨x1, h1⟩ := get 1 (by omega)
  obtain ⟨x2, h2⟩ := get 2 (by omega)
  obtain ⟨x3, h3⟩ := get 3 (by omega)
  refine ⟨⟨[x0, x1, x2, x3], rfl⟩, ?_⟩
  congr 1
  apply Array.ext_getElem?
  intro i
  rcases Nat.lt_or_ge i 4 with hi | hi
  · have hc : i = 0 ∨ i = 1 ∨ i = 2 ∨ i = 3 := by omega
    rcases hc with rfl | rfl | rfl | rfl
    · exact h0
    · exact h1
    · exact h2
    · exact h3
  · rw [Array.getElem?_eq_none (by omega), Array.getElem?_eq_none (by simp [us]; omega)]

/-- The readings of all arguments stay, if the heap only grew. -/
theorem trodAll_stays (hl : laidOutB P = true) {W W' : World} (hb : Below W.heap.size W W') {sp : Nat → Bool} : ∀ {ts : List TypeId} {vs : List Value} {ds : List (DataW H)} {ps : List MemPlace},
    (ts.all fun t => P.readableRec t && decide (t < P.types.size)) = true → DataW.TrodAll enc P W 0 (fun _ => true) true ts vs ds ps → (∀ x ∈ ps, x.block < W.heap.size) → (∀ x ∈ ps, sp x.block = true) → DataW.TrodAll enc P W' 0 sp true ts vs ds ps
  | [], [], [], _, _, h, _, _ => h
  | t :: ts, v :: vs, d :: ds, _, hts, ⟨p, q, h1, h2, e⟩, hlt, hs => by
    simp only [List.all_cons, Bool.and_eq_true, decide_eq_true_eq] at hts
    refine ⟨p, q, Trod_stays hl hts.1.1 hts.1.2 h1 (fun x hx => hb.same (hlt x (by rw [e]; exact List.mem_append_left _ hx))) (fun x hx => hs x (by rw [e]; exact List.mem_append_left _ hx)), ?_, e⟩
    exact trodAll_stays hl hb hts.2 h2 (fun x hx => hlt x (by rw [e]; exact List.mem_append_right _ hx)) (fun x hx => hs x (by rw [e]; exact List.mem_append_right _ hx))

/-- The row's last step: the law answered true, and the heap only grew. -/
theorem law_post {f : Func} {s : ChangeSpec} {apart fresh handsOn again : Bool} {W W' : World} {args : Array Value} {ds gs : List (DataW H)} {before : List MemPlace} {tb : TypeId} (hl : laidOutB P = true)
    (htb : P.underlying tb = some .bool) (hres : f.resultTypes = #[tb]) (hts : (f.params.toList.all fun t => P.readableRec t && decide (t < P.types.size)) = true)
    (hsv : s.vars = [])
    (hW : DataW.Whole enc P f.params.toList s.vars apart W args.toList ds gs before)
    (hfn : s.fn H (ds ++ gs) = { results := [.lit (.bool true)], args := ds })
    (hb : Below W.heap.size W W') : s.post enc P f apart fresh handsOn again W args (.bool true) W' := by
  have hlt : ∀ p ∈ before, p.block < W.heap.size := fun p hp => hW.lt p hp
  have hold : ∀ p ∈ before, (fun b => decide (b < W.heap.size)) p.block = true := fun p hp => by simpa using hlt p hp
  have hW0 := hW
  obtain ⟨pa, pv, hA, hV, hbe, hz, hn⟩ := hW
  rw [hsv] at hV
  obtain ⟨rfl, rfl⟩ := trodVars_none hV
  have hps : before = pa := by rw [hbe]; simp
  have hrb : ∀ (b : Nat) (sp : Nat → Bool) (hd : Bool), DataW.TrodAll enc P W' b sp hd f.resultTypes.toList ((Value.bool true).resultList f.resultTypes.size) (s.fn H (ds ++ [])).results [] := fun b sp hd => by
    rw [hfn, hres]
    exact trodAll_mk1 (shut_bool htb true)
  have hargs : ∀ sp : Nat → Bool, (∀ p ∈ before, sp p.block = true) → DataW.TrodAll enc P W' 0 sp true f.params.toList args.toList (s.fn H (ds ++ [])).args pa := fun sp hsp => by
    rw [hfn]
    exact trodAll_stays hl hb hts hA (fun x hx => hlt x (by rw [hps]; exact hx)) (fun x hx => hsp x (by rw [hps]; exact hx))
  have hvars : ∀ sp : Nat → Bool, (∀ p ∈ before, sp p.block = true) → DataW.TrodVars enc P W' sp s.vars (s.fn H (ds ++ [])).vars [] := fun sp _ => by
    rw [hfn, hsv]; rfl
  refine ⟨ds, [], before, [], pa, [], hW0, hrb _ _ _, hargs _ hold, hvars _ hold, World.keptBut_mono (fun p hp => ⟨hp, ?_⟩) (hb.frame (· ∈ before)), fun _ => ?_⟩
  · exact Or.inr (by rw [← hps]; simpa using hp)
  · refine ⟨?_, _, _, ([] ++ pa) ++ [], ⟨[] ++ pa, [], trodAll_append (hargs _ (fun _ _ => rfl)) (hrb _ _ _), hvars _ (fun _ _ => rfl), rfl, ?_, ?_⟩, ?_⟩
    · intro j t r hj hr
      rw [hres] at hj hr
      rcases j with _ | j
      · simp only [List.getElem?_toArray, List.getElem?_cons_zero, Option.some.injEq] at hj
        subst hj
        simp [Value.resultList] at hr
        subst hr
        exact okWide_bool_mk htb true
      · simp at hj
    · intro b off hp
      have hin : MemPlace.cell b off ∈ before := by rw [hps]; simpa using hp
      rw [hb.frozen (hlt _ hin)]
      exact hz b off hin
    · intro ha
      have := hn ha
      rw [hps] at this
      simpa using this
    · intro p hp _
      rw [hps]
      simpa using hp
end
end Go.Proofs.YtddggjmfplohkaaDoor
/- A slice of digests that came in as an argument reads as a list of digests; no law is named here. -/
namespace Go.Proofs.YtddggjmfplohkaaDoor
open Go.ChangeShapes Go.WideShapes Go.ChangeAt Go.WideMaps Go.WideElems Go.RowKit
section
variable {H : Type} {enc : TypeId × Value → H} {P : Program}
theorem D_of_trod {w : World} {base : Nat} {spare : Nat → Bool} {held : Bool} {fuel : Nat} {t e : TypeId} {cs : List Value} {x : DataW H × List MemPlace} (ht : P.underlying t = some (.array 4 e)) (he : P.underlying e = some (.int .u32)) (hce : P.cellsOf e = 1) (hct : P.cellsOf t = 4)
    (hf : DataW.trod enc P w base spare held fuel t cs = some x) : ∃ d : D, ∀ k, k < 4 → cs[k]? = some (u (d.1.getD k 0)) := by
  obtain ⟨xs, m, _, _, hsz, hn, hel⟩ := DataW.trod_array ht hf
  rw [hct] at hsz
  have get : ∀ i, i < 4 → ∃ x : UInt32, cs[i]? = some (u x) := by
    intro i hi
    have h1 := hel i hi
    rw [hce, Nat.mul_one] at h1
    have hci : i < cs.length := by omega
    have e1 : (cs.drop i).take 1 = [cs[i]] := by
      rw [List.drop_eq_getElem_cons hci]
      rfl
    rw [e1, List.getElem?_eq_getElem (by omega)] at h1
    obtain ⟨k, e2, _, hwf⟩ := DataW.trod_int he h1
    have hb := bounds_u32 hwf
    refine ⟨UInt32.ofNat k.toNat, ?_⟩
    rw [List.getElem?_eq_getElem hci]
    simp only [List.cons.injEq, and_true] at e2
    rw [e2]
    have : ((UInt32.ofNat k.toNat).toNat : Int) = k := by
      rw [UInt32.toNat_ofNat', Nat.mod_eq_of_lt (by omega)]; omega
    exact congrArg some (val_int this.symm)
  obtain ⟨x0, h0⟩ := get 0 (by omega)
  obtain ⟨x1, h1⟩ := get 1 (by omega)
  obtain ⟨x2, h2⟩ := get 2 (by omega)
  obtain ⟨x3, h3⟩ := get 3 (by omega)
  refine ⟨⟨[x0, x1, x2, x3], rfl⟩, fun k hk => ?_⟩
  have hc : k = 0 ∨ k = 1 ∨ k = 2 ∨ k = 3 := by omega
  rcases hc with rfl | rfl | rfl | rfl
  · exact h0
  · exact h1
  · exact h2
  · exact h3
theorem open_Ds {w : World} {base : Nat} {spare : Nat → Bool} {held : Bool} {r : Reach} {b0 : Nat} {t et e : TypeId} {v : Value} {d : DataW H} {p : List MemPlace} (ht : P.underlying t = some (.slice et)) (hte : P.underlying et = some (.array 4 e)) (he : P.underlying e = some (.int .u32)) (hce : P.cellsOf e = 1) (hct : P.cellsOf et = 4)
    (hv : Value.okWide P w r b0 t v) (h : DataW.Trod enc P w base spare held t v d p) : ∃ A n c l, v = .slice A n c ∧ SlD w A n c l := by
  obtain ⟨A, n, c, rfl⟩ := okWide_slice ht hv
  obtain ⟨fuel, hf⟩ := h
  rcases DataW.trod_slice ht hf with ⟨hcs, _⟩ | ⟨a, len, cap, elems, rest, m, _, hcs, _, hb, hl, hm, hz, hel, _, _⟩
  · have hcs' : [Value.slice A n c] = [.slice none 0 0] := hcs
    injection hcs' with hcs' _
    injection hcs' with h1 h2 h3
    subst h1 h2 h3
    exact ⟨none, 0, 0, [], rfl, Nat.le_refl _, by simp [maxLen], rfl, fun hn => by omega⟩
  · have hcs' : [Value.slice A n c] = [.slice (some a) len cap] := hcs
    injection hcs' with hcs' _
    injection hcs' with h1 h2 h3
    subst h1 h2 h3
    have each : ∀ i, i < n → ∃ d : D, ∀ k, k < 4 → w.cell? ((a.add (i * 4)).add k) = some (u (d.1.getD k 0)) := by
      intro i hi
      have h1 := hel i hi
      rw [hct, List.getElem?_eq_getElem (by omega), Option.bind_eq_some_iff] at h1
      obtain ⟨cs', hc, ht'⟩ := h1
      obtain ⟨d, hd⟩ := D_of_trod hte he hce hct ht'
      exact ⟨d, fun k hk => ((World.cells?_some hc).2.2 k hk).trans (hd k hk)⟩
    have each' : ∀ i, ∃ d : D, i < n → ∀ k, k < 4 → w.cell? ((a.add (i * 4)).add k) = some (u (d.1.getD k 0)) := fun i => by
      by_cases hi : i < n
      · obtain ⟨d, hd⟩ := each i hi; exact ⟨d, fun _ => hd⟩
      · exact ⟨D.zero, fun h => absurd h hi⟩
    obtain ⟨f, hf'⟩ := Classical.axiomOfChoice each'
    refine ⟨some a, n, c, (List.range n).map f, rfl, hl, hm, by simp, fun hn => ?_⟩
    obtain ⟨g, o, s⟩ := a
    have h00 := hf' 0 hn 0 (by omega)
    have hs : s = none ∧ g < w.heap.size := by
      have e0 : ((⟨g, o, s⟩ : Addr).add (0 * 4)).add 0 = ⟨g, o, s⟩ := by simp [Addr.add]
      rw [e0] at h00
      unfold World.cell? at h00
      split at h00
      · rename_i c' _ _ hh
        have hh' : w.heap[g]? = some (.cells c' _ _) := hh
        refine ⟨?_, (Array.getElem?_eq_some_iff.1 hh').1⟩
        cases s with
        | none => rfl
        | some x => simp at h00
      · cases h00
    obtain ⟨rfl, hg⟩ := hs
    refine ⟨g, o, rfl, hg, fun i k hi hk => ?_⟩
    have := hf' i hi k hk
    have e1 : ((⟨g, o, none⟩ : Addr).add (i * 4)).add k = ⟨g, o + i * 4 + k, none⟩ := by
      unfold Addr.add
      by_cases h1 : i * 4 = 0 <;> by_cases h2 : k = 0 <;> simp [h1, h2]
    rw [e1] at this
    rw [this]
    simp [hi]
end
end Go.Proofs.YtddggjmfplohkaaDoor
/- The fields of a struct that came in by value, read one by one: digests, slices of digests, integers, strings; no law is named here. -/
namespace Go.Proofs.YtddggjmfplohkaaDoor
open Go.ChangeShapes Go.WideShapes Go.ChangeAt Go.WideMaps Go.WideElems Go.RowKit
section
variable {H : Type} {enc : TypeId × Value → H} {P : Program} {w : World} {base : Nat} {spare : Nat → Bool} {held : Bool} {n i o m : Nat} {cs : Array Value} {xs : List (DataW H × List MemPlace)} {t : TypeId}
theorem take_drop_get (l : List Value) (o n k : Nat) (hk : k < n) : ((l.drop o).take n)[k]? = l[o + k]? := by
  rw [List.getElem?_take_of_lt hk, List.getElem?_drop]
theorem take_drop_one (l : List Value) (o : Nat) (v : Value) (h : (l.drop o).take 1 = [v]) : l[o]? = some v := by
  have := take_drop_get l o 1 0 (by omega)
  rw [h] at this
  simpa using this.symm
theorem field_some {x : Option (DataW H × List MemPlace)} (h : x = xs[i]?) (hl : xs.length = m) (hi : i < m) : ∃ y, x = some y := by
  rw [List.getElem?_eq_getElem (by omega)] at h
  exact ⟨_, h⟩
theorem open_st {r : Reach} {b0 : Nat} {fs : Array Field} {v : Value} {d : DataW H} {p : List MemPlace} (hs : P.underlying t = some (.struct fs)) (hv : Value.okWide P w r b0 t v) (h : DataW.Trod enc P w base spare held t v d p) :
    ∃ (cs : Array Value) (xs : List (DataW H × List MemPlace)) (n : Nat), v = .agg cs ∧ cs.size = P.cellsOf t ∧ xs.length = fs.size ∧
      ∀ (i : Nat) (f : Field), fs[i]? = some f → DataW.trod enc P w base spare held n f.type ((cs.toList.drop f.offset).take (P.cellsOf f.type)) = xs[i]? := by
  obtain ⟨cs, rfl, hsz⟩ := okWide_struct hs hv
  obtain ⟨fuel, hf⟩ := h
  obtain ⟨xs, n, _, _, _, hlen, hel⟩ := DataW.trod_struct hs hf
  exact ⟨cs, xs, n, rfl, hsz, hlen, hel⟩
theorem field_D {e : TypeId} (ht : P.underlying t = some (.array 4 e)) (he : P.underlying e = some (.int .u32)) (hce : P.cellsOf e = 1) (hct : P.cellsOf t = 4) (hl : xs.length = m) (hi : i < m)
    (hf : DataW.trod enc P w base spare held n t ((cs.toList.drop o).take (P.cellsOf t)) = xs[i]?) : ∃ d : D, ∀ k, k < 4 → cs[o + k]? = some (u (d.1.getD k 0)) := by
  obtain ⟨y, hy⟩ := field_some hf hl hi
  obtain ⟨d, hd⟩ := D_of_trod ht he hce hct hy
  refine ⟨d, fun k hk => ?_⟩
  have := hd k hk
  rw [hct, take_drop_get _ _ _ _ hk, Array.getElem?_toList] at this
  exact this
theorem field_int (ht : P.underlying t = some (.int .i64)) (hct : P.cellsOf t = 1) (hl : xs.length = m) (hi : i < m)
    (hf : DataW.trod enc P w base spare held n t ((cs.toList.drop o).take (P.cellsOf t)) = xs[i]?) : ∃ k : Int, cs[o]? = some (.int .i64 k) ∧ -9223372036854775808 ≤ k ∧ k ≤ 9223372036854775807 := by
  obtain ⟨y, hy⟩ := field_some hf hl hi
  obtain ⟨k, e2, _, hwf⟩ := DataW.trod_int ht hy
  rw [hct] at e2
  have hb := bounds_i64 hwf
  refine ⟨k, ?_, hb.1, hb.2⟩
  have := take_drop_one _ _ _ e2
  rw [Array.getElem?_toList] at this
  exact this
theorem slD_of_trod {et e : TypeId} (ht : P.underlying t = some (.slice et)) (hte : P.underlying et = some (.array 4 e)) (he : P.underlying e = some (.int .u32)) (hce : P.cellsOf e = 1) (hct : P.cellsOf et = 4) {l : List Value} {fuel : Nat} {y : DataW H × List MemPlace}
    (hf : DataW.trod enc P w base spare held fuel t l = some y) : ∃ A n c ds, l = [.slice A n c] ∧ SlD w A n c ds := by
  have key : ∀ A n c, l = [.slice A n c] → ∃ ds, SlD w A n c ds := fun A n c e => by
    subst e
    rcases DataW.trod_slice ht hf with ⟨hcs, _⟩ | ⟨a, len, cap, elems, rest, m, _, hcs, _, hb, hl, hm, hz, hel, _, _⟩
    · injection hcs with hcs' _
      injection hcs' with h1 h2 h3
      subst h1 h2 h3
      exact ⟨[], Nat.le_refl _, by simp [maxLen], rfl, fun hn => by omega⟩
    · injection hcs with hcs' _
      injection hcs' with h1 h2 h3
      subst h1 h2 h3
      have each : ∀ i, i < n → ∃ d : D, ∀ k, k < 4 → w.cell? ((a.add (i * 4)).add k) = some (u (d.1.getD k 0)) := by
        intro i hi
        have h1 := hel i hi
        rw [hct, List.getElem?_eq_getElem (by omega), Option.bind_eq_some_iff] at h1
        obtain ⟨cs', hc, ht'⟩ := h1
        obtain ⟨d, hd⟩ := D_of_trod hte he hce hct ht'
        exact ⟨d, fun k hk => ((World.cells?_some hc).2.2 k hk).trans (hd k hk)⟩
      have each' : ∀ i, ∃ d : D, i < n → ∀ k, k < 4 → w.cell? ((a.add (i * 4)).add k) = some (u (d.1.getD k 0)) := fun i => by
        by_cases hi : i < n
        · obtain ⟨d, hd⟩ := each i hi; exact ⟨d, fun _ => hd⟩
        · exact ⟨D.zero, fun h => absurd h hi⟩
      obtain ⟨f, hf'⟩ := Classical.axiomOfChoice each'
      refine ⟨(List.range n).map f, hl, hm, by simp, fun hn => ?_⟩
      obtain ⟨g, o, s⟩ := a
      have h00 := hf' 0 hn 0 (by omega)
      have hs : s = none ∧ g < w.heap.size := by
        have e0 : ((⟨g, o, s⟩ : Addr).add (0 * 4)).add 0 = ⟨g, o, s⟩ := by simp [Addr.add]
        rw [e0] at h00
        unfold World.cell? at h00
        split at h00
        · rename_i c' _ _ hh
          have hh' : w.heap[g]? = some (.cells c' _ _) := hh
          refine ⟨?_, (Array.getElem?_eq_some_iff.1 hh').1⟩
          cases s with
          | none => rfl
          | some x => simp at h00
        · cases h00
      obtain ⟨rfl, hg⟩ := hs
      refine ⟨g, o, rfl, hg, fun i k hi hk => ?_⟩
      have := hf' i hi k hk
      have e1 : ((⟨g, o, none⟩ : Addr).add (i * 4)).add k = ⟨g, o + i * 4 + k, none⟩ := by
        unfold Addr.add
        by_cases h1 : i * 4 = 0 <;> by_cases h2 : k = 0 <;> simp [h1, h2]
      rw [e1] at this
      rw [this]
      simp [hi]
  rcases DataW.trod_slice ht hf with ⟨hcs, _⟩ | ⟨a, len, cap, elems, rest, m, _, hcs, _⟩
  · obtain ⟨ds, h⟩ := key _ _ _ hcs; exact ⟨_, _, _, ds, hcs, h⟩
  · obtain ⟨ds, h⟩ := key _ _ _ hcs; exact ⟨_, _, _, ds, hcs, h⟩
theorem field_Ds {et e : TypeId} (ht : P.underlying t = some (.slice et)) (hte : P.underlying et = some (.array 4 e)) (he : P.underlying e = some (.int .u32)) (hce : P.cellsOf e = 1) (hct : P.cellsOf et = 4) (hc1 : P.cellsOf t = 1) (hl : xs.length = m) (hi : i < m)
    (hf : DataW.trod enc P w base spare held n t ((cs.toList.drop o).take (P.cellsOf t)) = xs[i]?) : ∃ A k c ds, cs[o]? = some (.slice A k c) ∧ SlD w A k c ds := by
  obtain ⟨y, hy⟩ := field_some hf hl hi
  obtain ⟨A, k, c, ds, e, h⟩ := slD_of_trod ht hte he hce hct hy
  rw [hc1] at e
  have := take_drop_one _ _ _ e
  rw [Array.getElem?_toList] at this
  exact ⟨A, k, c, ds, this, h⟩
end
end Go.Proofs.YtddggjmfplohkaaDoor
