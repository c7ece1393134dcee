import Derived.Test.YthmepecedjamcaaDoorP4
import Derived.Test.YthmepecedjamcaaDoorBox2
import Derived.Test.YthmepecedjamcaaDoorJouP
/- Journals: words, marks, records at the front of bytes, walked over plain values. -/
namespace Go.Proofs.YthmepecedjamcaaDoor
open Go.RowKit
set_option linter.unnecessarySimpa false
def wsP (l : List UInt32) : List (List PV) := l.map fun x => [.v (u x)]
theorem wsP_len (l : List UInt32) : (wsP l).length = l.length := List.length_map _
theorem wsP_getD {l : List UInt32} {j : Nat} (h : j < l.length) : (wsP l).getD j [] = [.v (u (l.getD j 0))] := by simp [wsP, List.getD, h]
theorem wsP_wide (l : List UInt32) (i : Nat) (h : i < (wsP l).length) : ((wsP l).getD i []).length = 1 := by
  rw [wsP_getD (by rw [wsP_len] at h; exact h)]; rfl
theorem rep_ws {E : Env} (hF : ∀ g i, E.F g i → g < E.w.heap.size) {k : K} {l : List UInt32} {x : Value} (r : Rep E (.sl k (wsP l)) x) : ∃ A c, x = .slice A l.length c ∧ SlU E.w A l.length c l := by
  generalize hes : wsP l = es at r
  cases r with
  | sl _ _ A c g o sz val h1 h2 h3 h4 h5 h6 hc hr =>
    subst hes
    rw [wsP_len] at h1 h5 hc hr ⊢
    refine ⟨A, c, rfl, h1, h2, rfl, fun hn => ?_⟩
    have hA := h6 (fun e => by have := wsP_len l; rw [e] at this; simp at this; omega)
    have hsz : sz = 1 := by
      have := h5 0 hn
      rw [wsP_getD hn] at this
      exact this.symm
    subst hsz
    refine ⟨g, o, hA, hF _ _ (hc 0 0 hn (by omega)).2.1, fun i hi => ?_⟩
    have h7 := (hc i 0 hi (by omega)).1
    have h8 := hr i 0 hi (by omega)
    rw [wsP_getD hi] at h8
    have h9 := h8.v_eq
    rw [h9] at h7
    simpa using h7
theorem s_bytes (l : List UInt32) (hm : l.length ≤ 1000000) : Spec (Ctx.mk Tryd.prog globX (0 + 1) Places) 39 [.sl .any (wsP l)] [] (.v (.string ⟨(bytesE l).toArray⟩)) [] :=
  spec_val rfl (fun E => .v _) fun E vs hp hF ha => by
    obtain ⟨x, rfl, r⟩ := repC1 ha
    obtain ⟨A, c, rfl, h⟩ := rep_ws hF r
    exact bytes_c l A _ c E.w hm h
theorem s_rbytes (l : List UInt32) (hm : l.length ≤ 1000000) : Spec (Ctx.mk Tryd.prog globX (0 + 1) Places) 46 [.sl .any (wsP l)] [] (.v (.string ⟨(bytesE l).toArray⟩)) [] :=
  spec_val rfl (fun E => .v _) fun E vs hp hF ha => by
    obtain ⟨x, rfl, r⟩ := repC1 ha
    obtain ⟨A, c, rfl, h⟩ := rep_ws hF r
    exact rbytes_c l A _ c E.w hm h
theorem dP_words (d : D) : (wsP d.1).flatten = dP d := by
  obtain ⟨l, hl⟩ := d
  match l, hl with
  | [a, b, c, e], _ => rfl
/-- A digest that lies in a box, as a row of words. -/
theorem dP_fits (b off : Nat) (d : D) {cs : List PV} (h : (cs.drop off).take 4 = dP d) : (Frz.mk b off 4 1 (wsP d.1)).fits cs := by
  refine ⟨by rw [wsP_len]; exact d.2, wsP_wide d.1, ?_⟩
  show (cs.drop off).take (4 * 1) = _
  rw [dP_words]; exact h
theorem strCells_flat (s : ByteArray) : (strCells s).flatten = bytesL s := by
  unfold strCells bytesL
  generalize s.data.toList = l
  induction l with
  | nil => rfl
  | cons a l ih => simp only [List.map_cons, List.flatten_cons, ih]; rfl
theorem bytesL_len (s : ByteArray) : (bytesL s).length = s.size := by simp [bytesL]
theorem bytesL_mk (l : List UInt8) : bytesL ⟨l.toArray⟩ = l.map fun b => .v (.int .u8 b.toNat) := rfl
theorem bytesL_splice (l m : List UInt8) (k : Nat) : splice (bytesL ⟨l.toArray⟩) (bytesL ⟨m.toArray⟩) k = bytesL ⟨(l.take k ++ m ++ l.drop (k + m.length)).toArray⟩ := by
  unfold splice
  rw [bytesL_mk, bytesL_mk, bytesL_mk]
  simp [List.map_take, List.map_drop]
theorem strCells_wide (s : ByteArray) (i : Nat) (h : i < (strCells s).length) : ((strCells s).getD i []).length = 1 := by
  have hi' : i < s.data.toList.length := by simpa [strCells] using h
  simp only [strCells, List.getD, List.getElem?_map, List.getElem?_eq_getElem hi', Option.map_some, Option.getD_some]
  rfl
/-- Bytes as a string. -/
def bs (l : List UInt8) : ByteArray := ⟨l.toArray⟩
theorem bs_size (l : List UInt8) : (bs l).size = l.length := by show l.toArray.size = _; simp
theorem bs_data (s : ByteArray) : bs s.data.toList = s := rfl
theorem bs_app (a b : List UInt8) : bs a ++ bs b = bs (a ++ b) := by
  apply ByteArray.ext
  rw [ByteArray.data_append]
  simp [bs]
theorem bs_extract (l : List UInt8) (a b : Nat) : (bs l).extract a b = bs ((l.drop a).take (b - a)) := by
  apply ByteArray.ext
  rw [ByteArray.data_extract]
  simp [bs]
theorem bs_get (l : List UInt8) (j : Nat) : (bs l)[j]? = l[j]? := by
  by_cases h : j < l.length
  · rw [getElem?_pos (bs l) j (by rw [bs_size]; exact h), List.getElem?_eq_getElem h]
    rfl
  · rw [getElem?_neg (bs l) j (by rw [bs_size]; exact h), List.getElem?_eq_none (by omega)]
theorem bs_inj {a b : List UInt8} : bs a = bs b ↔ a = b := ⟨fun h => by
  have := congrArg (fun s : ByteArray => s.data.toList) h
  simpa [bs] using this, fun h => by rw [h]⟩
set_option maxRecDepth 100000 in
theorem s_mark (d : D) : Spec (Ctx.mk Tryd.prog globX (0 + 1) Places) 41 [.agg (dP d)] [] (.v (.string (bs (bytesE d.1)))) [] := by
  refine spec_of_bodyL CX_mixed CX_gpk Tryd.func41 rfl 5 0 rfl rfl rfl rfl ?_
  refine go_ ?_
  with_reducible apply run_y
  exact want_
  · intro K hK
    refine ev_ ?_
    refine ⟨0, 4, rfl, rfl, Nat.zero_le _, Nat.le_refl _, by decide, ?_⟩
    refine ev_ ?_
    exact hK
  conv in (PV.slb 1 _ _ _) => change PV.slb 1 0 4 1
  refine go_ ?_
  with_reducible apply run_y
  exact want_
  · intro K hK
    refine ev_ ?_
    refine vcCall_frz1 (np := 0) (b := 1) (off := 0) (n' := 4) (sz := 1) (es := wsP d.1) (cs := dP d) (args := [.slb 1 0 4 1]) (s_bytes d.1 (by rw [d.2]; decide)) (by decide) (by decide) rfl rfl (dP_fits 1 0 d rfl) rfl rfl ?_
    refine ev_ ?_
    exact hK
  refine go_ ?_
  refine ev_ ?_
  exact .mk (by rfl) trivial
theorem wrapu64 {n : Nat} (h : n < 9223372036854775808) : IntKind.u64.wrap (n : Int) = (n : Int) := by
  show (n : Int) % 18446744073709551616 = _
  rw [Int.emod_eq_of_lt (by omega) (by omega)]
theorem wrapu32 {n : Nat} (h : n < 4294967296) : IntKind.u32.wrap (n : Int) = (n : Int) := by
  show (n : Int) % 4294967296 = _
  rw [Int.emod_eq_of_lt (by omega) (by omega)]
theorem u_num (n : Nat) (h : n < 4294967296) : u (UInt32.ofNat n) = Value.int .u32 (n : Int) := by
  show Value.int .u32 ((UInt32.ofNat n).toNat : Int) = _
  rw [UInt32.toNat_ofNat', Nat.mod_eq_of_lt h]
theorem bs_num (r : List UInt8) (h : r.length < 4294967296) : PV.v (Value.int .u32 (IntKind.u32.wrap (((bs r).size : Nat) : Int))) = .v (u (UInt32.ofNat r.length)) := by
  rw [bs_size, wrapu32 h, u_num _ h]
set_option maxRecDepth 100000 in
theorem s_framed (r : List UInt8) (hr : r.length ≤ 900000) : Spec (Ctx.mk Tryd.prog globX (0 + 1) Places) 28 [.v (.string (bs r))] [] (.v (.string (bs (recF r)))) [] := by
  have hw := bs_num r (by omega)
  have hsz : (bs (recH r.length)).size + (bs r).size ≤ 9223372036854775807 := by
    rw [bs_size, bs_size, recH_len]; omega
  refine spec_of_bodyL CX_mixed CX_gpk Tryd.func28 rfl 10 0 rfl rfl rfl rfl ?_
  refine go_ ?_
  rw [hw]
  with_reducible apply run_y
  exact want_
  · intro K hK
    refine ev_ ?_
    refine vcCall_plain (s_rbytes [UInt32.ofNat r.length] (by simp)) (by kernel_rfl) ?_
    refine ev_ ?_
    exact hK
  rw [show (⟨(bytesE [UInt32.ofNat r.length]).toArray⟩ : ByteArray) = bs (recH r.length) from rfl]
  refine go_ ?_
  rw [bs_app]
  refine go_ ?_
  refine ev_ ?_
  exact .mk (by rfl) trivial
set_option maxRecDepth 100000 in
theorem s_sum (r : List UInt8) (hr : r.length ≤ 900000) : Spec (Ctx.mk Tryd.prog globX (0 + 1) Places) 44 [.v (.string (bs r))] [] (.v (.string (bs (recS r)))) [] := by
  have hl : (bs (recF r)).size ≤ 1000000 := by rw [bs_size]; unfold recF; rw [List.length_append, recH_len]; omega
  have so := s_rof (bs (recF r)) hl
  have hd : recS r = bytesE (digE (bs (recF r))).1 := rfl
  rw [hd]
  generalize digE (bs (recF r)) = d at *
  have e : [d.1.getD 0 0, d.1.getD 1 0, d.1.getD 2 0, d.1.getD 3 0] = d.1 := by
    obtain ⟨l, hl⟩ := d
    match l, hl with
    | [a, b, c, e], _ => rfl
  have sb : Spec (Ctx.mk Tryd.prog globX (0 + 1) Places) 46 [.sl .any (wsP [d.1.getD 0 0, d.1.getD 1 0, d.1.getD 2 0, d.1.getD 3 0])] [] (.v (.string (bs (bytesE d.1)))) [] := by
    have := s_rbytes [d.1.getD 0 0, d.1.getD 1 0, d.1.getD 2 0, d.1.getD 3 0] (by simp)
    rw [show bytesE [d.1.getD 0 0, d.1.getD 1 0, d.1.getD 2 0, d.1.getD 3 0] = bytesE d.1 by rw [e]] at this
    exact this
  refine spec_of_bodyL CX_mixed CX_gpk Tryd.func44 rfl 17 0 rfl rfl rfl rfl ?_
  refine go_ ?_
  with_reducible apply run_y
  exact want_
  · intro K hK
    refine ev_ ?_
    refine vcCall_plain (s_framed r hr) (by kernel_rfl) ?_
    refine ev_ ?_
    exact hK
  refine go_ ?_
  with_reducible apply run_y
  exact want_
  · intro K hK
    refine ev_ ?_
    refine vcCall_plain (so) (by kernel_rfl) ?_
    refine ev_ ?_
    exact hK
  refine go_ ?_
  with_reducible apply run_y
  exact want_
  · intro K hK
    refine ev_ ?_
    refine vcCall_plain (sb) (by kernel_rfl) ?_
    refine ev_ ?_
    exact hK
  refine go_ ?_
  refine ev_ ?_
  exact .mk (by rfl) trivial
theorem or4 (a b c d : UInt8) : bits .or .u32 (bits .or .u32 (bits .or .u32 (a.toNat : Int) (IntKind.u32.wrap ((b.toNat : Int) * ((2 ^ 8 : Nat) : Int)))) (IntKind.u32.wrap ((c.toNat : Int) * ((2 ^ 16 : Nat) : Int)))) (IntKind.u32.wrap ((d.toNat : Int) * ((2 ^ 24 : Nat) : Int))) = ((a.toNat + 256 * b.toNat + 65536 * c.toNat + 16777216 * d.toNat : Nat) : Int) := by
  have ha := a.toNat_lt; have hb := b.toNat_lt; have hc := c.toNat_lt; have hd := d.toNat_lt
  rw [u32_or_add 8 (2 ^ 8) a.toNat b.toNat rfl (by omega) (by omega), u32_or_add 16 (2 ^ 16) _ c.toNat rfl (by omega) (by omega), u32_or_add 24 (2 ^ 24) _ d.toNat rfl (by omega) (by omega)]
  congr 1
  omega
/-- Four bytes, put together as the program does it. -/
def orE (a b c d : UInt8) : Int := bits .or .u32 (bits .or .u32 (bits .or .u32 (IntKind.u32.wrap (a.toNat : Int)) (IntKind.u32.wrap (IntKind.u32.wrap (b.toNat : Int) * 2 ^ min (Int.toNat 8) IntKind.u32.bits))) (IntKind.u32.wrap (IntKind.u32.wrap (c.toNat : Int) * 2 ^ min (Int.toNat 16) IntKind.u32.bits))) (IntKind.u32.wrap (IntKind.u32.wrap (d.toNat : Int) * 2 ^ min (Int.toNat 24) IntKind.u32.bits))
theorem orE_eq (a b c d : UInt8) : orE a b c d = ((a.toNat + 256 * b.toNat + 65536 * c.toNat + 16777216 * d.toNat : Nat) : Int) := by
  have ha := a.toNat_lt; have hb := b.toNat_lt; have hc := c.toNat_lt; have hd := d.toNat_lt
  unfold orE
  rw [wrapu32 (n := a.toNat) (by omega), wrapu32 (n := b.toNat) (by omega), wrapu32 (n := c.toNat) (by omega), wrapu32 (n := d.toNat) (by omega)]
  exact or4 a b c d
theorem app_words (a b c d : UInt8) : wsP [] ++ [[PV.v (Value.int .u32 (orE a b c d))]] = wsP [UInt32.ofNat (a.toNat + 256 * b.toNat + 65536 * c.toNat + 16777216 * d.toNat)] := by
  have ha := a.toNat_lt; have hb := b.toNat_lt; have hc := c.toNat_lt; have hd := d.toNat_lt
  rw [orE_eq, ← u_num _ (by omega)]
  rfl
theorem appOk_ws {zs sz by_ : Nat} {l l' : List UInt32} (hz : zs = 1) (hs : sz = 1) (hb : by_ ≤ 16) (h : l.length + l'.length ≤ 1000000) : AppOk zs sz by_ (wsP l) (wsP l') := by
  subst hz hs
  refine ⟨rfl, by omega, wsP_wide l, wsP_wide l', by rw [wsP_len, wsP_len]; simp only [maxLen]; omega, ?_⟩
  rw [wsP_len, wsP_len]
  exact Nat.le_trans (Nat.mul_le_mul h hb) (by decide)
set_option maxRecDepth 100000 in
theorem s_words4 (a b c d : UInt8) : Spec (Ctx.mk Tryd.prog globX (0 + 1) Places) 71 [.v (.string (bs [a, b, c, d]))] [] (.tup [.sl .any (wsP [UInt32.ofNat (a.toNat + 256 * b.toNat + 65536 * c.toNat + 16777216 * d.toNat)]), .v (.int .i64 0)]) [] := by
  have ha := a.toNat_lt; have hb := b.toNat_lt; have hc := c.toNat_lt; have hd := d.toNat_lt
  have hs : (bs [a, b, c, d]).size = 4 := rfl
  have hq : IntKind.i64.wrap (((4 : Nat) : Int).tdiv 4) = ((1 : Nat) : Int) := by decide
  refine spec_of_bodyL CX_mixed CX_gpk Tryd.func71 rfl 51 0 rfl rfl rfl rfl ?_
  refine go_ ?_
  rw [hs]
  refine go_ ?_
  rw [hs, hq]
  with_reducible apply run_y
  exact want_
  · intro K hK
    refine ev_ ?_
    refine ⟨0, 1, rfl, rfl, Nat.zero_le _, by decide, by decide, ?_⟩
    refine ev_ ?_
    exact hK
  refine go_ ?_
  refine c_loop (fun k q m h => (k = 1 ∧ q = [.v (.string (bs [a, b, c, d])), .top, .top, .v (.int .i64 0), .sl (.own 1) (wsP []), .v (.int .i64 0)] ++ List.replicate 45 .top ∧ m = 2 ∧ h = [(1, .row 0 37)]) ∨
      (k = 0 ∧ q = [.v (.string (bs [a, b, c, d])), .top, .top, .v (.int .i64 0), .sl (.own 1) (wsP [UInt32.ofNat (a.toNat + 256 * b.toNat + 65536 * c.toNat + 16777216 * d.toNat)]), .v (.int .i64 4)] ++ List.replicate 45 .top ∧ m = 2 ∧ h = [(1, .row 1 37)]))
    ⟨_, _, _, _, ?_, ?_, .inl ⟨rfl, rfl, rfl, rfl⟩⟩ ?_
  · rfl
  · skip
    exact sub_
  · rintro k q m h hlen (⟨rfl, rfl, rfl, rfl⟩ | ⟨rfl, rfl, rfl, rfl⟩)
    · clear hlen
      refine go_ ?_
      rw [hs]
      refine go_ ?_
      with_reducible apply run_y
      exact want_
      · intro K hK
        refine ev_ ?_
        refine ⟨0, a, rfl, rfl, ?_⟩
        refine ev_ ?_
        exact hK
      refine go_ ?_
      with_reducible apply run_y
      exact want_
      · intro K hK
        refine ev_ ?_
        refine ⟨1, b, rfl, rfl, ?_⟩
        refine ev_ ?_
        exact hK
      refine go_ ?_
      with_reducible apply run_y
      exact want_
      · intro K hK
        refine ev_ ?_
        refine ⟨2, c, rfl, rfl, ?_⟩
        refine ev_ ?_
        exact hK
      refine go_ ?_
      with_reducible apply run_y
      exact want_
      · intro K hK
        refine ev_ ?_
        refine ⟨3, d, rfl, rfl, ?_⟩
        refine ev_ ?_
        exact hK
      refine go_ ?_
      with_reducible apply run_y
      exact want_
      · intro K hK
        refine ev_ ?_
        refine ⟨wsP [UInt32.ofNat (a.toNat + 256 * b.toNat + 65536 * c.toNat + 16777216 * d.toNat)], app_words a b c d, ⟨rfl, by decide, wsP_wide [], fun i hi => (by match i, hi with | 0, _ => rfl), by show 0 + 1 ≤ 2 ^ 63 - 1; decide, Nat.le_of_ble_eq_true (by kernel_rfl)⟩, ?_⟩
        refine ev_ ?_
        exact hK
      refine go_ ?_
      refine c_round ⟨_, _, _, _, ?_, ?_, ?_, .inr ⟨rfl, rfl, rfl, rfl⟩⟩
      · decide
      · rfl
      · skip
        exact sub_
    · clear hlen
      refine go_ ?_
      rw [hs]
      refine go_ ?_
      refine ev_ ?_
      exact .mk (by rfl) trivial
theorem first_of {s : List UInt8} (h20 : 20 ≤ s.length) (hn : numE s ≤ s.length - 20) : firstE s = if (s.drop 4).take 16 = recS ((s.drop 20).take (numE s)) then some ((s.drop 20).take (numE s)) else none := by
  have hl : ((s.drop 20).take (numE s)).length = numE s := by rw [List.length_take, List.length_drop]; omega
  unfold firstE
  rw [if_neg (by omega), if_neg (by omega)]
  have e : recS ((s.drop 20).take (numE s)) = bytesE (digE ⟨(s.take 4 ++ (s.drop 20).take (numE s)).toArray⟩).1 := by
    unfold recS recF
    rw [hl, num_recH s (by omega)]
  rw [e]
theorem first_short {s : List UInt8} (h : s.length < 20) : firstE s = none := by unfold firstE; rw [if_pos h]
theorem first_long {s : List UInt8} (h : s.length - 20 < numE s) : firstE s = none := by
  unfold firstE
  split
  · rfl
  · rfl
/-- The front's four bytes. -/
theorem four_of {s : List UInt8} (h : 4 ≤ s.length) : ∃ a b c d : UInt8, s.take 4 = [a, b, c, d] ∧ numE s = a.toNat + 256 * b.toNat + 65536 * c.toNat + 16777216 * d.toNat := by
  match s, h with
  | a :: b :: c :: d :: s, _ => exact ⟨a, b, c, d, rfl, rfl⟩
set_option maxRecDepth 100000 in
set_option maxHeartbeats 4000000 in
theorem s_first (l : List UInt8) (hl : l.length ≤ 900000) : Spec (Ctx.mk Tryd.prog globX (0 + 1) Places) 60 [.v (.string (bs l))] [] (.tup [.v (.string (bs ((firstE l).getD []))), .v (.bool (firstE l).isSome)]) [] := by
  have hsz := bs_size l
  refine spec_of_bodyL CX_mixed CX_gpk Tryd.func60 rfl 49 0 rfl rfl rfl rfl ?_
  refine go_ ?_
  cases g1 : decide (((bs l).size : Int) < 20)
  case true =>
    have h1 : l.length < 20 := by have := of_decide_eq_true g1; rw [hsz] at this; omega
    rw [first_short h1]
    refine go_ ?_
    refine ev_ ?_
    exact .mk (by rfl) trivial
  case false =>
    have h1 : 20 ≤ l.length := by have := of_decide_eq_false g1; rw [hsz] at this; omega
    obtain ⟨a, b, c, d, h4, hn⟩ := four_of (s := l) (by omega)
    have ha := a.toNat_lt; have hb := b.toNat_lt; have hc := c.toNat_lt; have hd := d.toNat_lt
    have hlt := numE_lt l
    have sw := s_words4 a b c d
    rw [← hn] at sw
    rw [← h4] at sw
    have hx4 : (bs l).extract 0 4 = bs (l.take 4) := by rw [bs_extract]; rfl
    have c1 : IntKind.u64.wrap ((numE l : Nat) : Int) = ((numE l : Nat) : Int) := wrapu64 (by omega)
    have c2 : IntKind.i64.wrap (((bs l).size : Int) - 20) = ((l.length - 20 : Nat) : Int) := by rw [hsz, wrap64 (by omega) (by omega)]; omega
    have c3 : IntKind.u64.wrap (((l.length - 20 : Nat)) : Int) = ((l.length - 20 : Nat) : Int) := wrapu64 (by omega)
    have c4 : IntKind.i64.wrap ((numE l : Nat) : Int) = ((numE l : Nat) : Int) := wrap64 (by omega) (by omega)
    have hu : u (UInt32.ofNat (numE l)) = Value.int .u32 ((numE l : Nat) : Int) := u_num _ hlt
    refine go_ ?_
    with_reducible apply run_y
    exact want_
    · intro K hK
      refine ev_ ?_
      refine ⟨0, 4, bs (l.take 4), rfl, rfl, Nat.zero_le _, by rw [hsz]; omega, Tryd.underlying9, hx4, ?_⟩
      refine ev_ ?_
      exact hK
    refine go_ ?_
    with_reducible apply run_y
    exact want_
    · intro K hK
      refine ev_ ?_
      refine vcCall_plain (sw) (by kernel_rfl) ?_
      refine ev_ ?_
      exact hK
    refine go_ ?_
    rw [show (wsP [UInt32.ofNat (numE l)]).length = 1 from rfl]
    refine go_ ?_
    with_reducible apply run_y
    exact want_
    · intro K hK
      refine ev_ ?_
      refine ⟨0, [.v (.int .u32 ((numE l : Nat) : Int))], rfl, by rw [← hu]; rfl, rfl, ?_⟩
      refine ev_ ?_
      exact hK
    refine go_ ?_
    rw [c1, c2, c3]
    cases g2 : decide (((numE l : Nat) : Int) > ((l.length - 20 : Nat) : Int))
    case true =>
      have h2 : l.length - 20 < numE l := by have := of_decide_eq_true g2; omega
      rw [first_long h2]
      refine go_ ?_
      refine ev_ ?_
      exact .mk (by rfl) trivial
    case false =>
      have h2 : numE l ≤ l.length - 20 := by have := of_decide_eq_false g2; omega
      have c5 : IntKind.i64.wrap (20 + ((numE l : Nat) : Int)) = ((20 + numE l : Nat) : Int) := by rw [wrap64 (by omega) (by omega)]; omega
      have hx20 : (bs l).extract 20 (20 + numE l) = bs ((l.drop 20).take (numE l)) := by rw [bs_extract, Nat.add_sub_cancel_left]
      have hx16 : (bs l).extract 4 20 = bs ((l.drop 4).take 16) := by rw [bs_extract]
      refine go_ ?_
      with_reducible apply run_y
      exact want_
      · intro K hK
        refine ev_ ?_
        refine ⟨0, [.v (.int .u32 ((numE l : Nat) : Int))], rfl, by rw [← hu]; rfl, rfl, ?_⟩
        refine ev_ ?_
        exact hK
      refine go_ ?_
      rw [c4, c5]
      with_reducible apply run_y
      exact want_
      · intro K hK
        refine ev_ ?_
        refine ⟨20, 20 + numE l, bs ((l.drop 20).take (numE l)), rfl, rfl, by omega, by rw [hsz]; omega, Tryd.underlying9, hx20, ?_⟩
        refine ev_ ?_
        exact hK
      have hadd : (bs (l.take 4)).size + (bs ((l.drop 20).take (numE l))).size ≤ 9223372036854775807 := by
        rw [bs_size, bs_size, List.length_take, List.length_take, List.length_drop]; omega
      have hlen : (bs (l.take 4 ++ (l.drop 20).take (numE l))).size ≤ 1000000 := by
        rw [bs_size, List.length_append, List.length_take, List.length_take, List.length_drop]; omega
      have so := s_of (bs (l.take 4 ++ (l.drop 20).take (numE l))) hlen
      have hf : firstE l = if (l.drop 4).take 16 = bytesE (digE (bs (l.take 4 ++ (l.drop 20).take (numE l)))).1 then some ((l.drop 20).take (numE l)) else none := by
        unfold firstE; rw [if_neg (by omega), if_neg (by omega)]; rfl
      generalize digE (bs (l.take 4 ++ (l.drop 20).take (numE l))) = dg at *
      have sm := s_mark dg
      refine go_ ?_
      with_reducible apply run_y
      exact want_
      · intro K hK
        refine ev_ ?_
        refine ⟨0, 4, bs (l.take 4), rfl, rfl, Nat.zero_le _, by rw [hsz]; omega, Tryd.underlying9, hx4, ?_⟩
        refine ev_ ?_
        exact hK
      refine go_ ?_
      rw [bs_app]
      with_reducible apply run_y
      exact want_
      · intro K hK
        refine ev_ ?_
        refine vcCall_plain (so) (by kernel_rfl) ?_
        refine ev_ ?_
        exact hK
      refine go_ ?_
      with_reducible apply run_y
      exact want_
      · intro K hK
        refine ev_ ?_
        refine vcCall_plain (sm) (by kernel_rfl) ?_
        refine ev_ ?_
        exact hK
      refine go_ ?_
      with_reducible apply run_y
      exact want_
      · intro K hK
        refine ev_ ?_
        refine ⟨4, 20, bs ((l.drop 4).take 16), rfl, rfl, by decide, by rw [hsz]; omega, Tryd.underlying9, hx16, ?_⟩
        refine ev_ ?_
        exact hK
      refine go_ ?_
      cases g3 : (!decide (bs (bytesE dg.1) = bs ((l.drop 4).take 16)))
      case true =>
        have h3 : ¬ (l.drop 4).take 16 = bytesE dg.1 := fun e => by rw [e] at g3; simp at g3
        rw [hf, if_neg h3]
        refine go_ ?_
        refine ev_ ?_
        exact .mk (by rfl) trivial
      case false =>
        have h3 : (l.drop 4).take 16 = bytesE dg.1 := by
          have : bs (bytesE dg.1) = bs ((l.drop 4).take 16) := by simpa using g3
          exact (bs_inj.1 this).symm
        rw [hf, if_pos h3]
        refine go_ ?_
        refine ev_ ?_
        exact .mk (by rfl) trivial
theorem strCells_app (a b : List UInt8) : strCells (bs a) ++ strCells (bs b) = strCells (bs (a ++ b)) := by simp [strCells, bs]
theorem strCells_len (s : ByteArray) : (strCells s).length = s.size := by simp [strCells]
theorem appOk_bytes {zs sz by_ : Nat} {a b : List UInt8} (hz : zs = 1) (hs : sz = 1) (hb : by_ ≤ 16) (h : a.length + b.length ≤ 10000000) : AppOk zs sz by_ (strCells (bs a)) (strCells (bs b)) := by
  subst hz hs
  refine ⟨rfl, by omega, strCells_wide _, strCells_wide _, by rw [strCells_len, strCells_len, bs_size, bs_size]; simp only [maxLen]; omega, ?_⟩
  rw [strCells_len, strCells_len, bs_size, bs_size]
  exact Nat.le_trans (Nat.mul_le_mul h hb) (by decide)
/-- Rows of bytes, as strings. -/
def bsL (l : List (List UInt8)) : List ByteArray := l.map bs
theorem bsL_len (l : List (List UInt8)) : (bsL l).length = l.length := List.length_map _
theorem bsL_at {l : List (List UInt8)} {j : Nat} (h : j < l.length) : (bsL l).getD j ByteArray.empty = bs (l.getD j []) := by simp [bsL, List.getD, h]
theorem bsL_data (l : List ByteArray) : bsL (l.map fun s => s.data.toList) = l := by
  unfold bsL
  rw [List.map_map]
  conv => rhs; rw [← List.map_id l]
  rfl
theorem bsL_inj {a b : List (List UInt8)} : bsL a = bsL b ↔ a = b := ⟨fun h => by
  have := congrArg (List.map fun s : ByteArray => s.data.toList) h
  simpa [bsL, bs, Function.comp_def] using this, fun h => by rw [h]⟩
set_option maxRecDepth 100000 in
theorem s_jlist (a b : List (List UInt8)) (ha : a.length ≤ 1000000) : Spec (Ctx.mk Tryd.prog globX (0 + 1) Places) 26 [.sl .any (ssP (bsL a)), .sl .any (ssP (bsL b))] [] (.v (.bool (decide (a = b)))) [] := by
  refine spec_of_bodyL CX_mixed CX_gpk Tryd.func26 rfl 26 0 rfl rfl rfl rfl ?_
  refine go_ ?_
  first | refine run_b rfl rfl rfl (fun h => ?_) (fun h => ?_) | refine c_cond rfl (fun h => ?_) (fun h => ?_)
  · have hne : a ≠ b := by rintro rfl; simp at h
    rw [decide_eq_false hne]
    refine go_ ?_
    refine ev_ ?_
    exact .mk (by rfl) trivial
  · have hl : a.length = b.length := by simp [ssP_len, bsL_len] at h; omega
    refine go_ ?_
    refine c_loop (fun k q m h => ∃ j : Nat, j ≤ a.length ∧ k = a.length - j ∧ q = [.sl .any (ssP (bsL a)), .sl .any (ssP (bsL b)), .top, .top, .v (.bool false), .v (.int .i64 (j : Int))] ++ List.replicate 20 .top ∧ m = 1 ∧ h = [] ∧ ∀ i, i < j → a.getD i [] = b.getD i [])
      ⟨_, _, _, _, ?_, ?_, ⟨0, by omega, rfl, rfl, rfl, rfl, fun i hi => by omega⟩⟩ ?_
    · rfl
    · skip
      exact sub_
    · rintro k q m h hlen ⟨j, hj, rfl, rfl, rfl, rfl, hb⟩
      clear hlen
      refine go_ ?_
      cases g1 : decide ((j : Int) < ((ssP (bsL a)).length : Int))
      case true =>
        have hj' : j < a.length := by have := of_decide_eq_true g1; rw [ssP_len, bsL_len] at this; omega
        have h1 : j < (bsL a).length := by rw [bsL_len]; exact hj'
        have h2 : j < (bsL b).length := by rw [bsL_len]; omega
        have hw1 : IntKind.i64.wrap ((j : Int) + 1) = ((j + 1 : Nat) : Int) := by rw [wrap64 (by omega) (by omega)]; omega
        refine go_ ?_
        rw [bsL_at hj', bsL_at (l := b) (by omega)]
        cases he : (!decide (bs (a.getD j []) = bs (b.getD j [])))
        case true =>
          have hne : a ≠ b := by rintro rfl; simp at he
          rw [decide_eq_false hne]
          refine go_ ?_
          refine ev_ ?_
          exact .mk (by rfl) trivial
        case false =>
          have he' : a.getD j [] = b.getD j [] := bs_inj.1 (by simpa using he)
          refine go_ ?_
          rw [hw1]
          refine go_ ?_
          refine c_round ⟨_, _, _, _, ?_, ?_, ?_, ⟨j + 1, by omega, rfl, rfl, rfl, rfl, fun i hi => ?_⟩⟩
          · omega
          · rfl
          · skip
            exact sub_
          · by_cases hij : i = j
            · rw [hij]; exact he'
            · exact hb i (by omega)
      case false =>
        have hj' : j = a.length := by have := of_decide_eq_false g1; rw [ssP_len, bsL_len] at this; omega
        subst hj'
        have he : a = b := by
          apply List.ext_getElem hl
          intro i h1 h2
          have := hb i h1
          simpa [List.getD, h1, h2] using this
        rw [decide_eq_true he]
        refine go_ ?_
        refine ev_ ?_
        exact .mk (by rfl) trivial
/-- How many bytes records have, at most so many. -/
def totalE (most : Nat) : List (List UInt8) → Nat → Nat
  | [], n => n
  | r :: l, n => if n ≤ most then totalE most l (n + 20 + r.length) else n
theorem totalE_le : ∀ {l : List (List UInt8)} {most n : Nat}, totalE most l n ≤ most → totalE most l n = n + (putB l).length
  | [], most, n, _ => by simp [totalE, putB_nil]
  | r :: l, most, n, h => by
    unfold totalE at h ⊢
    split at h
    · rename_i h1
      rw [if_pos h1, totalE_le h, putB_cons, List.length_append, recB_len]; omega
    · omega
theorem lists_drop {l : List (List UInt8)} {j : Nat} (h : j < l.length) : l.drop j = l.getD j [] :: l.drop (j + 1) := by
  rw [List.drop_eq_getElem_cons h]; simp [List.getD, h]
set_option maxRecDepth 100000 in
theorem s_total (l : List (List UInt8)) (most : Nat) (hm : most ≤ 1000000) (hl : l.length ≤ maxLen) (hs : ∀ r ∈ l, r.length ≤ 9223372036000000000) : Spec (Ctx.mk Tryd.prog globX (0 + 1) Places) 23 [.sl .any (ssP (bsL l)), .v (.int .i64 (most : Int))] [] (.v (.int .i64 ((totalE most l 0 : Nat) : Int))) [] := by
  refine spec_of_bodyL CX_mixed CX_gpk Tryd.func23 rfl 27 0 rfl rfl rfl rfl ?_
  refine go_ ?_
  refine c_loop (fun k q m h => ∃ j n : Nat, j ≤ l.length ∧ k = l.length - j ∧ n ≤ 9223372036000000000 + 1000020 ∧ totalE most l 0 = totalE most (l.drop j) n ∧ q = [.sl .any (ssP (bsL l)), .v (.int .i64 (most : Int)), .top, .top, .v (.int .i64 0), .v (.int .i64 (n : Int)), .v (.int .i64 (j : Int))] ++ List.replicate 20 .top ∧ m = 1 ∧ h = [])
    ⟨_, _, _, _, ?_, ?_, ⟨0, 0, Nat.zero_le _, rfl, by decide, rfl, rfl, rfl, rfl⟩⟩ ?_
  · rfl
  · skip
    exact sub_
  · rintro k q m h hlen ⟨j, n, hj, rfl, hn, he, rfl, rfl, rfl⟩
    clear hlen
    rw [he]
    refine go_ ?_
    cases g1 : decide ((j : Int) < ((ssP (bsL l)).length : Int))
    case false =>
      have hj' : ¬ j < l.length := by have := of_decide_eq_false g1; rw [ssP_len, bsL_len] at this; omega
      rw [List.drop_eq_nil_of_le (by omega)]
      refine go_ ?_
      refine ev_ ?_
      exact .mk (by rfl) trivial
    case true =>
      have hj' : j < l.length := by have := of_decide_eq_true g1; rw [ssP_len, bsL_len] at this; omega
      have h1 : j < (bsL l).length := by rw [bsL_len]; exact hj'
      have hw1 : IntKind.i64.wrap ((j : Int) + 1) = ((j + 1 : Nat) : Int) := by simp only [maxLen] at hl; rw [wrap64 (by omega) (by omega)]; omega
      refine go_ ?_
      cases g2 : decide ((n : Int) ≤ (most : Int))
      case false =>
        have h2 : ¬ n ≤ most := by have := of_decide_eq_false g2; omega
        rw [lists_drop hj']
        rw [show totalE most (l.getD j [] :: l.drop (j + 1)) n = n by unfold totalE; rw [if_neg h2]]
        refine go_ ?_
        refine ev_ ?_
        exact .mk (by rfl) trivial
      case true =>
        have h2 : n ≤ most := by have := of_decide_eq_true g2; omega
        have hr : (l.getD j []).length ≤ 9223372036000000000 := hs _ (by rw [List.getD_eq_getElem?_getD, List.getElem?_eq_getElem hj']; exact List.getElem_mem hj')
        have hw2 : IntKind.i64.wrap ((n : Int) + 20) = ((n + 20 : Nat) : Int) := by rw [wrap64 (by omega) (by omega)]; omega
        have hw3 : IntKind.i64.wrap (((n + 20 : Nat) : Int) + ((bs (l.getD j [])).size : Int)) = ((n + 20 + (l.getD j []).length : Nat) : Int) := by rw [bs_size, wrap64 (by omega) (by omega)]; omega
        have hstep : totalE most (l.drop j) n = totalE most (l.drop (j + 1)) (n + 20 + (l.getD j []).length) := by
          rw [lists_drop hj']; conv => lhs; unfold totalE
          rw [if_pos h2]
        rw [hstep]
        refine go_ ?_
        rw [bsL_at hj', hw2, hw3]
        refine go_ ?_
        rw [hw1]
        refine go_ ?_
        refine c_round ⟨_, _, _, _, ?_, ?_, ?_, ⟨j + 1, n + 20 + (l.getD j []).length, hj', rfl, by omega, rfl, rfl, rfl, rfl⟩⟩
        · omega
        · rfl
        · skip
          exact sub_
end Go.Proofs.YthmepecedjamcaaDoor
