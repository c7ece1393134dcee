import Derived.Test.YtjokaennipmmaaaDoorStrs
import Derived.Test.YtjokaennipmmaaaDoorGen
import Derived.Test.YtjokaennipmmaaaDoorOfPure
import Derived.Lib.ConvBytes
import Derived.ArgAppend
/- What a call leaves that writes into one block of the caller's own, and makes memory: all other blocks are as they were. -/
namespace Go.Proofs.YtjokaennipmmaaaDoor
open Go.RowKit
structure But (g : Nat) (w w' : World) : Prop where
  os : w'.os = w.os
  tape : w'.tape = w.tape
  output : w'.output = w.output
  size : w.heap.size ≤ w'.heap.size
  block : ∀ k, k < w.heap.size → k ≠ g → w'.heap[k]? = w.heap[k]?
section
variable {g : Nat} {a b c w w' : World}
theorem But.refl (g : Nat) (w : World) : But g w w := ⟨rfl, rfl, rfl, Nat.le_refl _, fun _ _ _ => rfl⟩
theorem But.of_grow (h : Grow w w') : But g w w' := ⟨h.os, h.tape, h.output, h.size, fun k hk _ => h.block k hk⟩
theorem But.tr (h : But g a b) (k : But g b c) : But g a c :=
  ⟨k.os.trans h.os, k.tape.trans h.tape, k.output.trans h.output, Nat.le_trans h.size k.size, fun i hi hn => (k.block i (Nat.lt_of_lt_of_le hi h.size) hn).trans (h.block i hi hn)⟩
theorem But.grow (h : But g a b) (k : Grow b c) : But g a c := h.tr (But.of_grow k)
theorem But.drew (h : But g a b) : But g a b.drew := ⟨h.os, h.tape, h.output, h.size, h.block⟩
theorem But.setCell (h : But g a b) (i : Nat) (v : Value) : But g a (b.setCell ⟨g, i, none⟩ v) :=
  ⟨h.os, h.tape, h.output, by simpa using h.size, fun k hk hn => (Below.heap_setCell b ⟨g, i, none⟩ v k hn).trans (h.block k hk hn)⟩
theorem But.below (h : But g a b) {B : Nat} (hg : B ≤ g) (hB : B ≤ a.heap.size) : Below B a b :=
  ⟨h.os, h.tape, h.output, h.size, fun k hk => h.block k (Nat.lt_of_lt_of_le hk hB) (by omega)⟩
theorem But.blk (h : But g a b) {k : Nat} {t : TypeId} {cs : Array Value} (hb : Blk a k t cs) (hk : k ≠ g) : Blk b k t cs := (h.block k hb.lt hk).trans hb
theorem SlD.but {A : Option Addr} {n c : Nat} {l : List D} (h : SlD a A n c l) (hb : But g a b) (hne : ∀ ga oa, A = some ⟨ga, oa, none⟩ → ga ≠ g) : SlD b A n c l := by
  obtain ⟨h1, h2, h3, h4⟩ := h
  refine ⟨h1, h2, h3, fun hn => ?_⟩
  obtain ⟨ga, o, e, hl, hc⟩ := h4 hn
  exact ⟨ga, o, e, Nat.lt_of_lt_of_le hl hb.size, fun i k hi hk => (World.cell?_of_block (hb.block ga hl (hne ga o e))).trans (hc i k hi hk)⟩
end
end Go.Proofs.YtjokaennipmmaaaDoor
/- word.Bytes and seedcornref01.Bytes: words as bytes, four each. -/
namespace Go.Proofs.YtjokaennipmmaaaDoor
open Go.RowKit
/-- A slice of words that reads as l, its address and capacity named. -/
def SlU (w : World) (A : Option Addr) (n c : Nat) (l : List UInt32) : Prop :=
  n ≤ c ∧ c ≤ maxLen ∧ l.length = n ∧ (0 < n → ∃ g o, A = some ⟨g, o, none⟩ ∧ g < w.heap.size ∧ ∀ i, i < n → w.cell? ⟨g, o + i, none⟩ = some (u (l.getD i 0)))
theorem SlU.grow {w w' : World} {A : Option Addr} {n c : Nat} {l : List UInt32} (h : SlU w A n c l) (hg : Grow w w') : SlU w' A n c l := by
  obtain ⟨h1, h2, h3, h4⟩ := h
  refine ⟨h1, h2, h3, fun hn => ?_⟩
  obtain ⟨g, o, e, hl, hc⟩ := h4 hn
  exact ⟨g, o, e, Nat.lt_of_lt_of_le hl hg.size, fun i hi => (hg.cell (p := ⟨g, o + i, none⟩) hl).trans (hc i hi)⟩
theorem SlU.of_blk {w : World} {b n : Nat} {e : TypeId} {l : List UInt32} (h : Blk w b e (us l)) (hl : l.length = n) (hm : n ≤ maxLen) : SlU w (some ⟨b, 0, none⟩) n n l :=
  ⟨Nat.le_refl _, hm, hl, fun _ => ⟨b, 0, rfl, h.lt, fun i hi => by rw [Nat.zero_add, h.cell i]; exact us_get l i (by omega)⟩⟩
structure BysAt (w0 wr : World) (v : Value) (b : List UInt8) : Prop where
  own : wr.ownsRow w0.heap.size 5 1 v b.length (bys b)
  gro : Grow w0 wr
theorem BysAt.grow {w0 w w' : World} {v : Value} {b : List UInt8} (h : BysAt w0 w v b) (hg : Grow w w') : BysAt w0 w' v b := ⟨ownsRow_grow h.own hg, h.gro.tr hg⟩
theorem byte_of (n : Nat) (d : Nat) : IntKind.u8.wrap ((n : Int) / (d : Int)) = ((UInt8.ofNat (n / d)).toNat : Int) := by
  rw [← u8_of]; simp
theorem bys_one (b : List UInt8) : ∀ x ∈ bys b, x.oneCell' = true := by simp [bys, Value.oneCell']
theorem le4_take_succ (n k : Nat) (hk : k < 4) : (le4 n).take (k + 1) = (le4 n).take k ++ [UInt8.ofNat (n / 256 ^ k)] := by
  have hc : k = 0 ∨ k = 1 ∨ k = 2 ∨ k = 3 := by omega
  rcases hc with rfl | rfl | rfl | rfl <;> simp [le4]
theorem u8_mod (m : Nat) : UInt8.ofNat (m % 256) = UInt8.ofNat m := by
  rw [← UInt8.toNat_inj, UInt8.toNat_ofNat', UInt8.toNat_ofNat']; omega
set_option maxRecDepth 100000 in
set_option maxHeartbeats 1000000 in
theorem rbytes_c (l : List UInt32) (A : Option Addr) (n c : Nat) (w : World) (hm : n ≤ 1000000) (hs : SlU w A n c l) :
    Calls Tryd.prog 51 #[.slice A n c] w fun e w' => e = .returned (.string ⟨(bytesE l).toArray⟩) ∧ Grow w w' := by
  have HS := Lib.hid hs
  clear hs
  have hmk := fun W => run_make_const (P := Tryd.prog) 94 5 _ 1 1 Tryd.underlying94 info_u8 0 (4 * n) (by omega) (by omega) (by omega) W
  simp only [Int.natCast_mul, Int.cast_ofNat_Int, Nat.mul_one] at hmk
  go_enter Tryd.func51, Tryd.ntmps51
  go_upto_region 2 with (fail)
  clear hmk
  have hown0 : (w.alloc (.cells (madeCells #[Value.int .u8 0] (4 * n)) 5)).ownsRow w.heap.size 5 1 (.slice (some ⟨w.heap.size, 0, none⟩) 0 (4 * n)) 0 [] :=
    World.ownsRow_made w _ (4 * n) (Nat.le_refl _) (by simp [maxLen]; omega) (by simp [madeCells])
  refine wp_gen (fun W => BysAt w W (.slice (some ⟨w.heap.size, 0, none⟩) 0 (4 * n)) []) ⟨hown0, (Grow.refl _).alloc (Nat.le_refl _) _⟩ ?_
  clear hown0
  intro w1 h1
  have H1 := Lib.hid h1
  clear h1
  generalize Value.slice (some ⟨w.heap.size, 0, none⟩) 0 (4 * n) = v0 at *
  go_wp2_with fail
  go_loopw [3, 4, 5, 6] (fun v i _ _ wr => ∃ j : Nat, j ≤ n ∧ i = .int .i64 j ∧ BysAt w wr v (bytesE (l.take j))) (fun _ i _ _ _ => n - (intOf i).toNat)
  case atStart => exact ⟨0, by omega, rfl, by rw [List.take_zero]; exact H1.out⟩
  case round =>
    obtain ⟨j, hj, rfl, hN⟩ := hrel
    have HN := Lib.hid hN
    clear hN H1
    have hln := HS.out.2.2.1
    by_cases hlt : j < n
    · have hj1 : decide ((j : Int) < (n : Int)) = true := by simp; omega
      have b1 : (0 : Int) ≤ j := by omega
      have b2 : (j : Int) < n := by omega
      obtain ⟨g, o, rfl, hgl, hgc⟩ := HS.out.2.2.2 (by omega)
      have hcell := (HN.out.gro.cell (p := ⟨g, o + j, none⟩) hgl).trans (hgc j hlt)
      have Hsucc := Lib.hid (bytesE_take_succ l j (by omega))
      have hbl : (bytesE (l.take j)).length = 4 * j := by rw [bytesE_length, List.length_take]; omega
      have HB := Lib.hid hbl
      have hcc := Lib.hid HS.out.1
      clear hbl hln hgl hgc
      generalize l.getD j 0 = x at *
      generalize bytesE (l.take j) = b at *
      go_wp2_with fail
      clear hcell hj1
      obtain ⟨wo, hwo⟩ : ∃ wo : World, wo = wr := ⟨_, rfl⟩
      subst hwo
      go_loopw [3, 5, 6] (fun v m i wr => ∃ k : Nat, k ≤ 4 ∧ i = .int .i64 k ∧ m = .int .u32 ((x.toNat / 256 ^ k : Nat) : Int) ∧ BysAt w wr v (b ++ (le4 x.toNat).take k)) (fun _ _ i _ => 4 - (intOf i).toNat)
      case atStart => exact ⟨0, by omega, rfl, by simp, by rw [List.take_zero, List.append_nil]; exact HN.out⟩
      case round =>
        obtain ⟨k, hk, rfl, rfl, hM⟩ := hrel
        have HM := Lib.hid hM
        clear hM HN
        by_cases hlk : k < 4
        · have hj1 : decide ((k : Int) < 4) = true := by simp; omega
          have Hs2 := Lib.hid (le4_take_succ x.toNat k hlk)
          have Hpw := Lib.hid (show x.toNat / 256 ^ (k + 1) = x.toNat / 256 ^ k / 256 by rw [Nat.pow_succ, Nat.div_div_eq_div_mul])
          have hml : x.toNat / 256 ^ k < 4294967296 := Nat.lt_of_le_of_lt (Nat.div_le_self _ _) x.toNat_lt
          have hbl : (b ++ (le4 x.toNat).take k).length = 4 * j + k := by rw [List.length_append, HB.out, List.length_take]; simp [le4]; omega
          have HB2 := Lib.hid hbl
          clear hbl
          generalize hm2 : x.toNat / 256 ^ (k + 1) = m2 at *
          have Hm2 := Lib.hid hm2
          clear hm2
          generalize x.toNat / 256 ^ k = m at *
          generalize (le4 x.toNat).take k = p1 at *
          have f1 : (m : Int).tmod 256 = ((m % 256 : Nat) : Int) := by rw [Int.tmod_eq_emod_of_nonneg (by omega)]; omega
          have f2 : IntKind.u8.wrap ((m % 256 : Nat) : Int) = ((UInt8.ofNat m).toNat : Int) := by rw [u8_of, u8_mod]
          have f3 : (m : Int) / 256 = (m2 : Int) := by rw [Hpw.out]; omega
          generalize m % 256 = r at *
          generalize UInt8.ofNat m = y at *
          have hown := HM.out.own
          have hbase := HM.out.gro.size
          go_wp2_with (at_builtin; refine wpList_append_new rfl (.tmp 25) (.tmp 29) 94 rfl w.heap.size 5 (.int .u8 0) 1 1 Tryd.underlying94 info_u8 rfl (by omega) _ (b ++ p1).length _ rfl hown 1 1 (bys [y]) rfl rfl (bys_one _) (by rw [HB2.out]; simp only [maxLen]; omega) (by rw [HB2.out]; omega) hbase ?_; intro v' w3 hown' hbel' _)
          go_roundw
          case rel =>
            refine ⟨k + 1, by omega, by go_num, by rw [Hm2.out], ?_⟩
            rw [Hs2.out, ← List.append_assoc]
            refine ⟨?_, HM.out.gro.trans hbel'⟩
            rw [List.length_append, bys_append]
            exact hown'
          case measure => simp [intOf]; omega
        · have e : k = 4 := by omega
          subst e
          go_wp2_with fail
          go_roundw
          case rel => exact ⟨j + 1, by omega, by go_num, by rw [Hsucc.out]; exact HM.out⟩
          case measure => simp [intOf]; omega
    · have e : j = n := by omega
      subst e
      rw [List.take_of_length_le (by omega)] at HN
      have hcv := run_string_of wr 94 9 5 Tryd.underlying94 Tryd.underlying5 Tryd.underlying9 (Sl.of_own HN.out.own)
      go_wp2_with fail
      go_ret
      exact ⟨rfl, HN.out.gro⟩
end Go.Proofs.YtjokaennipmmaaaDoor
/- digest.four: the words of sixteen bytes. -/
namespace Go.Proofs.YtjokaennipmmaaaDoor
open Go.RowKit
def fourTo (l : List UInt8) (p : Nat) : Nat → List UInt32
  | 0 => [0, 0, 0, 0]
  | j + 1 => (fourTo l p j).set j (leW l (p + 4 * j))
theorem fourTo_length (l : List UInt8) (p j : Nat) : (fourTo l p j).length = 4 := by
  induction j with
  | zero => rfl
  | succ j ih => simp [fourTo, ih]
theorem fourTo_four (l : List UInt8) (p : Nat) : fourTo l p 4 = (blkE l p).1 := rfl
theorem u32_or_add (k d a b : Nat) (hd : d = 2 ^ k) (ha : a < d) (hb : a + b * d < 4294967296) : bits .or .u32 (a : Int) (IntKind.u32.wrap ((b : Int) * (d : Int))) = ((a + b * d : Nat) : Int) := by
  subst hd
  have h0 : IntKind.u32.wrap ((b : Int) * ((2 ^ k : Nat) : Int)) = ((b * 2 ^ k : Nat) : Int) := by
    rw [← Int.natCast_mul]
    show _ % 4294967296 = _
    rw [Int.emod_eq_of_lt (Int.natCast_nonneg _) (by omega)]
  rw [h0]
  show IntKind.u32.wrap ((BitVec.ofInt 32 _ ||| BitVec.ofInt 32 _).toNat : Int) = _
  rw [BitVec.toNat_or, BitVec.ofInt_natCast, BitVec.ofInt_natCast, BitVec.toNat_ofNat, BitVec.toNat_ofNat, Nat.mod_eq_of_lt (by omega), Nat.mod_eq_of_lt (by omega)]
  have h1 : a ||| b * 2 ^ k = a + b * 2 ^ k := by
    rw [Nat.or_comm, ← Nat.shiftLeft_eq, ← Nat.shiftLeft_add_eq_or_of_lt ha, Nat.add_comm]
  rw [h1]
  show (_ : Int) % 4294967296 = _
  rw [Int.emod_eq_of_lt (Int.natCast_nonneg _) (by omega)]
structure FourAt (w0 w : World) (x : List UInt32) : Prop where
  res : Blk w w0.heap.size 29 (us [0, 0, 0, 0])
  box : Blk w (w0.heap.size + 1) 29 (us x)
  gro : Grow w0 w
end Go.Proofs.YtjokaennipmmaaaDoor
/- A row of bytes of the call's own that may have come of a string (its mark lies behind all cells): appended to one by one; no program is named here. -/
namespace Go.Proofs.YtjokaennipmmaaaDoor
open Go.RowKit
def OwnB (w : World) (base : Nat) (e : TypeId) (v : Value) (n : Nat) (xs : List Value) : Prop :=
  xs.length = n ∧ ∃ (g cap : Nat) (cur : Array Value) (fr : Nat × Nat), v = .slice (some ⟨g, 0, none⟩) n cap ∧ base ≤ g ∧ w.heap[g]? = some (.cells cur e fr) ∧ (fr = (0, 0) ∨ cur.size ≤ fr.1) ∧ n ≤ cap ∧ cap ≤ maxLen ∧ cur.size = cap ∧ cur.toList.take n = xs
section
variable {w w' : World} {base n : Nat} {e : TypeId} {v : Value} {xs : List Value}
theorem OwnB.of_own (h : w.ownsRow base e 1 v n xs) (hn : 0 < n) : OwnB w base e v n xs := by
  obtain ⟨hl, h | ⟨g, cap, cur, hv, h1, h2, h3, h4, h5, h6⟩⟩ := h
  · omega
  · exact ⟨by omega, g, cap, cur, (0, 0), hv, h1, h2, .inl rfl, h3, h4, by omega, by rw [← h6, Nat.mul_one]⟩
theorem cell_of_heap {g : Nat} {cur : Array Value} {fr : Nat × Nat} (h : w.heap[g]? = some (.cells cur e fr)) (j : Nat) : w.cell? ⟨g, j, none⟩ = cur[j]? := by
  simp [World.cell?, h]
theorem OwnB.sl (h : OwnB w base e v n xs) : Sl w v 1 n xs := by
  obtain ⟨hl, g, cap, cur, fr, hv, h1, h2, hf, h3, h4, h5, h6⟩ := h
  refine ⟨_, cap, hv, h3, h4, by omega, .inr ⟨g, 0, rfl, ?_, fun j x hx => ?_⟩⟩
  · rcases Nat.lt_or_ge g w.heap.size with hlt | hge
    · exact hlt
    · rw [Array.getElem?_eq_none hge] at h2; cases h2
  · rw [Nat.zero_add, cell_of_heap h2 j]
    rw [← h6] at hx
    rw [List.getElem?_take] at hx
    split at hx
    · simpa using hx
    · simp at hx
theorem OwnB.lt (h : OwnB w base e v n xs) : base < w.heap.size := by
  obtain ⟨hl, g, cap, cur, fr, hv, h1, h2, hf, h3, h4, h5, h6⟩ := h
  rcases Nat.lt_or_ge g w.heap.size with hlt | hge
  · omega
  · rw [Array.getElem?_eq_none hge] at h2; cases h2
theorem OwnB.grow (h : OwnB w base e v n xs) (hg : Grow w w') : OwnB w' base e v n xs := by
  obtain ⟨hl, g, cap, cur, fr, hv, h1, h2, r⟩ := h
  refine ⟨hl, g, cap, cur, fr, hv, h1, ?_, r⟩
  rcases Nat.lt_or_ge g w.heap.size with hlt | hge
  · exact (hg.block g hlt).trans h2
  · rw [Array.getElem?_eq_none hge] at h2; cases h2
theorem heap_setCell_at {g i : Nat} {cur : Array Value} {fr : Nat × Nat} (h : w.heap[g]? = some (.cells cur e fr)) (x : Value) : (w.setCell ⟨g, i, none⟩ x).heap[g]? = some (.cells (cur.setIfInBounds i x) e fr) := by
  simp [World.setCell, Array.getElem?_modify, h]
theorem bytesWorld_own (w : World) (e : TypeId) (l : List UInt8) (hm : l.length ≤ maxLen) : OwnB (Lib.bytesWorld w e ⟨l.toArray⟩) w.heap.size e (.slice (some ⟨w.heap.size, 0, none⟩) l.length (grownCap w l.length 0 e)) l.length (bys l) := by
  have hs : (ByteArray.mk l.toArray).size = l.length := by simp [ByteArray.size]
  have hge := grownCap_ge w l.length 0 e
  have hsz : (Lib.bytesCells w e ⟨l.toArray⟩).size = grownCap w l.length 0 e := by
    simp [Lib.bytesCells, hs]; omega
  refine ⟨by simp [bys], _, _, _, _, rfl, Nat.le_refl _, Lib.bytesWorld_at_new w e ⟨l.toArray⟩, .inr (Nat.le_refl _), hge, grownCap_le_maxLen w _ 0 e hm, hsz, ?_⟩
  simp [Lib.bytesCells, bys]
theorem bytesWorld_grow (w : World) (e : TypeId) (s : ByteArray) : Grow w (Lib.bytesWorld w e s) :=
  ⟨rfl, rfl, rfl, by rw [Lib.bytesWorld_size]; omega, fun k hk => Lib.bytesWorld_at_old w e s k hk⟩
end
/-- append of one element that was just laid into a new block. -/
theorem wpList_append_B1 {P : Program} {ops : Array Oper} {rest : List Oper} {o : Oper} {a : Act} {Q : Exit → Act → World → Prop} {wr : World} (hgd : o.guard = none) (s x : Operand) (t : TypeId)
    (ho : o.op = .call { callee := .builtin .append, args := #[s, x], argTypes := #[t, t] })
    (base : Nat) (e : TypeId) (z : Value) (bytes : Nat) (ht : P.underlying t = some (.slice e)) (hinfo : (P.info? e).map (fun i => (i.zero, i.size, i.bytes)) = some (some z, 1, bytes)) (hzs : z.cells.size = 1)
    (v : Value) (n : Nat) (xs : List Value) (hs : a.eval s = v) (hown : OwnB wr base e v n xs) (c : Nat) (y : Value) (hx : a.eval x = .slice (some ⟨wr.heap.size, 0, none⟩) 1 c) (h1 : y.oneCell' = true)
    (h63 : n + 1 ≤ maxLen) (hbytes : (n + 1) * bytes ≤ 140737488355328)
    (h : ∀ v' w', OwnB w' base e v' (n + 1) (xs ++ [y]) → Below base wr w' → wpList P ops Q rest (a.put o.dst v') w') : wpList P ops Q (o :: rest) a (wr.alloc (.cells #[y] e)) := by
  obtain ⟨i, hi, hz0, hz1, hz2⟩ := info_parts hinfo
  have hbase := hown.lt
  have hn0 := hown
  obtain ⟨hl, g, cap, cur, fr, hv, hbg, hg, hf, h3, h4, h5, h6⟩ := hown
  subst hv
  have hglt : g < wr.heap.size := by
    rcases Nat.lt_or_ge g wr.heap.size with hlt | hge
    · exact hlt
    · rw [Array.getElem?_eq_none hge] at hg; cases hg
  have hg' : (wr.alloc (.cells #[y] e)).heap[g]? = some (.cells cur e fr) := (Below.heap_alloc wr _ g hglt).trans hg
  refine wpList_append_arg _ hgd s x t ho e i z 1 bytes ht hi hz0 hz1 hz2 hzs (by omega) g 0 n cap xs hs (by omega) ?_ ⟨wr.heap.size, 0, none⟩ 1 c [y] hx rfl ?_ (by simpa using h1) ?_ h63 hbytes ?_ ?_
  · intro j u hj
    rw [Nat.zero_add, cell_of_heap hg' j]
    rw [← h6, List.getElem?_take] at hj
    split at hj
    · simpa using hj
    · simp at hj
  · intro j u hj
    have hadd : (⟨wr.heap.size, 0, none⟩ : Addr).add j = ⟨wr.heap.size, j, none⟩ := by unfold Addr.add; split <;> simp_all
    rw [hadd, (Blk.new wr e #[y]).cell j]
    simpa using hj
  · intro hroom j hj
    have hj0 : j = 0 := by simpa using hj
    subst hj0
    refine ⟨?_, ?_⟩
    · rw [cell_of_heap hg']
      simp; omega
    · have hfz : (wr.alloc (.cells #[y] e)).frozen? ⟨g, 0 + n * 1 + 0, none⟩ = (decide (fr.1 ≤ 0 + n * 1 + 0) && decide (0 + n * 1 + 0 < fr.2)) := by
        unfold World.frozen?
        simp only [hg']
      rw [hfz]
      rcases hf with hf | hf
      · subst hf; simp
      · have : ¬ fr.1 ≤ n := by omega
        simp [this]
  · intro hroom
    refine h _ _ ⟨by simp; omega, g, cap, cur.setIfInBounds n y, fr, rfl, hbg, ?_, ?_, hroom, h4, ?_, ?_⟩ ?_
    · show ((wr.alloc (.cells #[y] e)).setCell ⟨g, 0 + n * 1, none⟩ y).heap[g]? = _
      rw [Nat.zero_add, Nat.mul_one]
      exact heap_setCell_at hg' y
    · simpa using hf
    · simpa using h5
    · have hnc : n < cur.size := by omega
      rw [← h6]
      apply List.ext_getElem?
      intro j
      simp only [Array.toList_setIfInBounds, List.getElem?_take, List.getElem?_set, List.getElem?_append, List.length_take, Array.length_toList]
      rw [Nat.min_eq_left (by omega)]
      by_cases hj : j < n
      · simp [hj, show ¬ n = j by omega, show j < n + 1 by omega]
      · by_cases hjn : j = n
        · subst hjn; simp [hnc]
        · simp [hj, show ¬ j < n + 1 by omega, show j - n ≠ 0 by omega]
    · exact ((Below.refl base wr).alloc (by omega) _).setCell (by exact hbg) _
  · intro hfull v' w' hown' hgr
    refine h v' w' ?_ ?_
    · have := OwnB.of_own hown' (by omega)
      obtain ⟨q1, g2, c2, cu2, f2, q2, q3, q4⟩ := this
      exact ⟨q1, g2, c2, cu2, f2, q2, by simp at q3; omega, q4⟩
    · exact ((Below.refl base wr).alloc (by omega) _).grown hgr (by simp; omega) (fun k hk => by cases hk)
end Go.Proofs.YtjokaennipmmaaaDoor
/- digest.Of: the digest of bytes. -/
namespace Go.Proofs.YtjokaennipmmaaaDoor
open Go.RowKit
structure OfAt (w0 w : World) (x : List UInt32) : Prop where
  res : Blk w w0.heap.size 30 (us D.zero.1)
  box : Blk w (w0.heap.size + 1) 91 (us x)
  gro : Grow w0 w
  pla : Places w
  gp : 0 < w0.heap.size
theorem OfAt.grow {w0 w w' : World} {x : List UInt32} (h : OfAt w0 w x) (hg : Grow w w') : OfAt w0 w' x := ⟨h.res.grow hg, h.box.grow hg, h.gro.tr hg, h.pla.grow hg, h.gp⟩
theorem OfAt.store {w0 w : World} {x y : List UInt32} (h : OfAt w0 w x) : OfAt w0 (w.setRow (w0.heap.size + 1) (us y)) y :=
  ⟨h.res.setRow_far (by omega) _, h.box.setRow _, h.gro.setRow (by omega) _, h.pla.under ((Below.refl (w0.heap.size + 1) w).setRow (Nat.le_refl _) _) (by have := h.gp; omega), h.gp⟩
theorem zeros_not (n z : Nat) (h : z < zerosE n) : (n + 1 + z) % 16 ≠ 8 := by unfold zerosE at h; omega
theorem extract_drop (l : List UInt8) (k : Nat) : (ByteArray.mk l.toArray).extract k l.length = ⟨(l.drop k).toArray⟩ := by
  have := ByteArray.ext_iff.2 (show ((ByteArray.mk l.toArray).extract k l.length).data = (l.drop k).toArray by
    rw [ByteArray.data_extract]; simp [List.take_of_length_le (show (l.drop k).length ≤ l.length - k by simp)])
  exact this
/-- The row that is being filled up to the frame. -/
structure RestAt (w0 w : World) (v : Value) (b : List UInt8) : Prop where
  own : OwnB w w0.heap.size 5 v b.length (bys b)
  gro : Grow w0 w
end Go.Proofs.YtjokaennipmmaaaDoor
/- seedcornref01.Words: bytes as words. -/
namespace Go.Proofs.YtjokaennipmmaaaDoor
open Go.RowKit
theorem wordsOf_succ (b : List UInt8) (n : Nat) : wordsOf b (n + 1) = wordsOf b n ++ [leW b (4 * n)] := by simp [wordsOf, List.range_succ]
theorem wordsOf_length (b : List UInt8) (n : Nat) : (wordsOf b n).length = n := by simp [wordsOf]
theorem wordsOf_getD (b : List UInt8) (n i : Nat) (h : i < n) : (wordsOf b n).getD i 0 = leW b (4 * i) := by simp [wordsOf, List.getD, h]
/-- What the four bytes from p on make, the last t of them taken. -/
def leT (b : List UInt8) (p : Nat) : Nat → Nat
  | 0 => 0
  | t + 1 => leT b p t * 256 + (b.getD (p + 3 - t) 0).toNat
theorem leT_lt (b : List UInt8) (p t : Nat) : leT b p t < 256 ^ t := by
  induction t with
  | zero => simp [leT]
  | succ t ih =>
    have := (b.getD (p + 3 - t) 0).toNat_lt
    rw [Nat.pow_succ]
    simp only [leT]
    omega
theorem leT_four (b : List UInt8) (p : Nat) : leT b p 4 = (leW b p).toNat := by
  rw [leW_toNat]
  simp only [leT, Nat.zero_mul, Nat.zero_add, Nat.sub_zero, Nat.add_sub_cancel, show p + 3 - 1 = p + 2 by omega, show p + 3 - 2 = p + 1 by omega]
  omega
theorem info_u32g : (Tryd.prog.info? 28).map (fun i => (i.zero, i.size, i.bytes)) = some (some (.int .u32 0), 1, 4) := by kernel_rfl
theorem u_one (l : List UInt32) : ∀ x ∈ l.map u, x.oneCell' = true := by simp [Value.oneCell']
structure WordsAt (w0 w : World) (v : Value) (l : List UInt32) : Prop where
  own : w.ownsRow w0.heap.size 28 1 v l.length (l.map u)
  gro : Grow w0 w
set_option maxRecDepth 100000 in
set_option maxHeartbeats 2000000 in
theorem rwords_c (b : List UInt8) (q : Nat) (w : World) (hb : b.length = 4 * q) (hm : b.length ≤ 10000000) :
    Calls Tryd.prog 58 #[.string ⟨b.toArray⟩] w fun e w' => ∃ v, e = .returned (.tuple #[v, .int .i64 0]) ∧ WordsAt w w' v (wordsOf b q) := by
  have hsz : (ByteArray.mk b.toArray).size = b.length := by simp [ByteArray.size]
  have Hix := Lib.hid (fun j hj W => index_str b j hj W)
  obtain ⟨N, hN⟩ : ∃ N, N = b.length := ⟨_, rfl⟩
  rw [← hN] at hb hsz hm Hix
  clear hN
  have t0 : (N : Int).tmod 4 = 0 := by rw [Int.tmod_eq_emod_of_nonneg (by omega)]; omega
  have t1 : ((0 : Int) != 0) = false := by decide
  have t2 : (N : Int) / 4 = (q : Int) := by omega
  have hmk := fun W => run_make_const (P := Tryd.prog) 84 28 _ 1 4 Tryd.underlying84 info_u32g 0 q (by omega) (by omega) (by omega) W
  simp only [Int.cast_ofNat_Int, Nat.mul_one] at hmk
  have HN := Lib.hid hb
  clear hb
  go_enter Tryd.func58, Tryd.ntmps58
  go_upto_region 4 with (fail)
  clear hmk t0 t1 t2
  have hown0 : (w.alloc (.cells (madeCells #[Value.int .u32 0] q) 28)).ownsRow w.heap.size 28 1 (.slice (some ⟨w.heap.size, 0, none⟩) 0 q) 0 [] :=
    World.ownsRow_made w _ q (Nat.le_refl _) (by have := HN.out; simp only [maxLen]; omega) (by simp [madeCells])
  refine wp_gen (fun W => WordsAt w W (.slice (some ⟨w.heap.size, 0, none⟩) 0 q) []) ⟨hown0, (Grow.refl _).alloc (Nat.le_refl _) _⟩ ?_
  clear hown0
  intro w1 h1
  have H1 := Lib.hid h1
  clear h1
  generalize Value.slice (some ⟨w.heap.size, 0, none⟩) 0 q = v0 at *
  go_wp2_with fail
  go_loopw [4, 5, 6, 7] (fun v i _ _ wr => ∃ j : Nat, j ≤ q ∧ i = .int .i64 (4 * (j : Int)) ∧ WordsAt w wr v (wordsOf b j)) (fun _ i _ _ _ => N - (intOf i).toNat)
  case atStart => exact ⟨0, by omega, rfl, H1.out⟩
  case round =>
    obtain ⟨j, hj, rfl, hM⟩ := hrel
    have HM := Lib.hid hM
    clear hM H1
    by_cases hlt : j < q
    · have hj1 : decide (4 * (j : Int) < (N : Int)) = true := by have := HN.out; simp; omega
      have Hs := Lib.hid (wordsOf_succ b j)
      have Hll := Lib.hid (wordsOf_length b j)
      have H4 := Lib.hid (leT_four b (4 * j))
      generalize wordsOf b j = l at *
      go_wp2_with fail
      clear hj1
      obtain ⟨wo, hwo⟩ : ∃ wo : World, wo = wr := ⟨_, rfl⟩
      subst hwo
      go_loop [6, 7] (fun n k => ∃ t : Nat, t ≤ 4 ∧ k = .int .i64 (3 - (t : Int)) ∧ n = .int .u32 (leT b (4 * j) t : Int)) (fun _ k => (intOf k + 1).toNat)
      case atStart => exact ⟨0, by omega, rfl, rfl⟩
      case round =>
        obtain ⟨t, ht, rfl, rfl⟩ := hrel
        by_cases hlk : t < 4
        · have hj1 : decide ((0 : Int) ≤ 3 - (t : Int)) = true := by simp; omega
          have hn3 : leT b (4 * j) t < 16777216 := Nat.lt_of_lt_of_le (leT_lt b (4 * j) t) (by
            have : 256 ^ t ≤ 256 ^ 3 := Nat.pow_le_pow_right (by omega) (by omega)
            simpa using this)
          have Hst := Lib.hid (show leT b (4 * j) (t + 1) = leT b (4 * j) t * 256 + (b.getD (4 * j + 3 - t) 0).toNat from rfl)
          have x0 := Hix.out (4 * j + 3 - t) (by have := HN.out; omega)
          have k0 := (b.getD (4 * j + 3 - t) 0).toNat_lt
          have hxN : 4 * j + 3 - t < N := by have := HN.out; omega
          have e0 : 4 * (j : Int) + (3 - (t : Int)) = ((4 * j + 3 - t : Nat) : Int) := by omega
          generalize leT b (4 * j) t = n at *
          generalize b.getD (4 * j + 3 - t) 0 = c at *
          generalize 4 * j + 3 - t = x at *
          go_wp2
          go_round
          case rel => exact ⟨t + 1, by omega, val_int (by omega), val_int (by rw [Hst.out]; omega)⟩
          case measure => simp [intOf]; omega
        · have e : t = 4 := by omega
          subst e
          have hj1 : decide ((0 : Int) ≤ 3 - ((4 : Nat) : Int)) = false := by decide
          rw [H4.out]
          generalize leW b (4 * j) = y at *
          have hown := HM.out.own
          rw [Hll.out] at hown
          have hbase := HM.out.gro.size
          have hjb : j ≤ 10000000 := by have := HN.out; omega
          go_wp2_with (at_builtin; refine wpList_append_new rfl (.tmp 35) (.tmp 37) 84 rfl w.heap.size 28 (.int .u32 0) 1 4 Tryd.underlying84 info_u32g rfl (by omega) _ j _ rfl hown 1 1 ([y].map u) rfl rfl (u_one _) (by simp only [maxLen]; omega) (by omega) hbase ?_; intro v' w3 hown' hbel' _)
          go_roundw
          case rel =>
            refine ⟨j + 1, by omega, by go_num, ?_⟩
            rw [Hs.out]
            refine ⟨?_, HM.out.gro.trans hbel'⟩
            rw [List.length_append, Hll.out, List.map_append]
            exact hown'
          case measure => have := HN.out; simp [intOf]; omega
    · have e : j = q := by omega
      subst e
      have hj1 : decide (4 * (j : Int) < (N : Int)) = false := by have := HN.out; simp; omega
      go_wp2_with fail
      go_ret2
      exact ⟨_, rfl, HM.out⟩
end Go.Proofs.YtjokaennipmmaaaDoor
/- seedcornref03.Of: the digest of bytes. -/
namespace Go.Proofs.YtjokaennipmmaaaDoor
open Go.RowKit
theorem SlU.setRow {w : World} {g o n c : Nat} {l : List UInt32} (h : SlU w (some ⟨g, o, none⟩) n c l) {b : Nat} (hne : g ≠ b) (cs : Array Value) : SlU (w.setRow b cs) (some ⟨g, o, none⟩) n c l := by
  obtain ⟨h1, h2, h3, h4⟩ := h
  refine ⟨h1, h2, h3, fun hn => ?_⟩
  obtain ⟨g', o', e, hl, hc⟩ := h4 hn
  injection e with e
  injection e with e1 e2 _
  subst e1 e2
  exact ⟨_, _, rfl, by simpa using hl, fun i hi => (cell_setRow_other w b cs ⟨g, o + i, none⟩ hne).trans (hc i hi)⟩
theorem SlU.at {w : World} {g o n c : Nat} {l : List UInt32} (h : SlU w (some ⟨g, o, none⟩) n c l) (i : Nat) (hi : i < n) : w.cell? ⟨g, o + i, none⟩ = some (u (l.getD i 0)) := by
  obtain ⟨g', o', e, _, hc⟩ := h.2.2.2 (by omega)
  injection e with e
  injection e with e1 e2 _
  subst e1 e2
  exact hc i hi
theorem SlU.of_own {w : World} {base n g cap : Nat} {e : TypeId} {l : List UInt32} (h : w.ownsRow base e 1 (.slice (some ⟨g, 0, none⟩) n cap) n (l.map u)) : SlU w (some ⟨g, 0, none⟩) n cap l := by
  have hs := Sl.of_own h
  obtain ⟨A, c, hv, h1, h2, h3, h4⟩ := hs
  injection hv with e1 e2 e3
  subst e1 e3
  refine ⟨h1, h2, by simpa using h3, fun hn => ?_⟩
  rcases h4 with h4 | ⟨g', o', e4, h5, h6⟩
  · omega
  · refine ⟨g', o', e4, h5, fun i hi => h6 i _ ?_⟩
    have hl : l.length = n := by simpa using h3
    simp [List.getD, List.getElem?_eq_getElem (show i < l.length by omega)]
structure RDAt (w0 w : World) (g n c b8 : Nat) (ws x : List UInt32) : Prop where
  res : Blk w w0.heap.size 30 (us D.zero.1)
  box : Blk w b8 91 (us x)
  sl : SlU w (some ⟨g, 0, none⟩) n c ws
  gro : Grow w0 w
  hne : g ≠ b8
  hb8 : w0.heap.size < b8
theorem RDAt.grow {w0 w w' : World} {g n c b8 : Nat} {ws x : List UInt32} (h : RDAt w0 w g n c b8 ws x) (hg : Grow w w') : RDAt w0 w' g n c b8 ws x :=
  ⟨h.res.grow hg, h.box.grow hg, h.sl.grow hg, h.gro.tr hg, h.hne, h.hb8⟩
theorem RDAt.store {w0 w : World} {g n c b8 : Nat} {ws x y : List UInt32} (h : RDAt w0 w g n c b8 ws x) : RDAt w0 (w.setRow b8 (us y)) g n c b8 ws y :=
  ⟨h.res.setRow_far (by have := h.hb8; omega) _, h.box.setRow _, h.sl.setRow h.hne _, h.gro.setRow (by have := h.hb8; omega) _, h.hne, h.hb8⟩
theorem rzeros_not (n z : Nat) (h : z < zerosE n) : (n + 1 + z) % 16 ≠ 8 := by unfold zerosE at h; omega
set_option maxRecDepth 100000 in
set_option maxHeartbeats 2000000 in
theorem rof_c (l : List UInt8) (w : World) (hm : l.length ≤ 1000000) :
    Calls Tryd.prog 43 #[.string ⟨l.toArray⟩] w fun e w' => e = .returned (.agg (us (ofE l).1)) ∧ Grow w w' := by
  have hsz : (ByteArray.mk l.toArray).size = l.length := by simp [ByteArray.size]
  have ha1 := fun W => run_string_add_lists (P := Tryd.prog) (w := W) l [128] (by omega) (by simp)
  go_enter Tryd.func43, Tryd.ntmps43
  go_upto_region 1 with (fail)
  refine wp_gen (fun W => Blk W w.heap.size 30 (us D.zero.1) ∧ Grow w W) ⟨Blk.new _ _ _, (Grow.refl _).alloc (Nat.le_refl _) _⟩ ?_
  intro w1 h1
  have H1 := Lib.hid h1
  clear h1
  go_wp2_with fail
  clear ha1
  obtain ⟨zn, hzn⟩ : ∃ z, z = zerosE l.length := ⟨_, rfl⟩
  have hzb : zn < 16 := by rw [hzn]; exact zerosE_lt _
  have Hzn := Lib.hid hzn
  clear hzn
  have Hsz := Lib.hid hsz
  clear hsz
  go_loop [0] (fun v => ∃ z, z ≤ zn ∧ v = .string ⟨(l ++ [128] ++ List.replicate z 0).toArray⟩) (fun v => l.length + 1 + zn - (match v with | .string s => s.size | _ => 0))
  case atStart => exact ⟨0, by omega, by rw [List.replicate_zero, List.append_nil]⟩
  case round =>
    obtain ⟨z, hz, rfl⟩ := hrel
    have hbl : (l ++ [128] ++ List.replicate z (0 : UInt8)).length = l.length + 1 + z := by simp; omega
    by_cases hlt : z < zn
    · have hrs : l ++ [128] ++ List.replicate (z + 1) (0 : UInt8) = (l ++ [128] ++ List.replicate z 0) ++ [0] := by rw [List.replicate_succ', ← List.append_assoc]
      have Hrs := Lib.hid hrs
      clear hrs
      have t2 : (((l.length + 1 + z) % 16 : Nat) : Int) ≠ 8 := by have := rzeros_not l.length z (by rw [← Hzn.out]; exact hlt); omega
      generalize l ++ [128] ++ List.replicate z 0 = B at *
      obtain ⟨n, hn⟩ : ∃ n, n = l.length + 1 + z := ⟨_, rfl⟩
      rw [← hn] at hbl t2
      obtain ⟨r, hr⟩ : ∃ r, r = n % 16 := ⟨_, rfl⟩
      rw [← hr] at t2
      have hbs : (ByteArray.mk B.toArray).size = n := by simp [ByteArray.size, hbl]
      have Hbs := Lib.hid hbs
      have hnb : n ≤ 1000020 := by omega
      have t1 : (n : Int).tmod 16 = (r : Int) := by rw [Int.tmod_eq_emod_of_nonneg (by omega)]; omega
      have t3 : ((r : Int) != 8) = true := by simpa using t2
      have ha2 := fun W => run_string_add_lists (P := Tryd.prog) (w := W) B [0] (by rw [hbl]; omega) (by simp)
      have Hn := Lib.hid hn
      clear hn hr t2 hbl
      go_wp2_with fail
      go_round
      case rel => exact ⟨z + 1, by omega, by rw [Hrs.out]⟩
      case measure =>
        have h1 := Hn.out
        have h2 := Hbs.out
        simp only [ByteArray.size, List.size_toArray, List.length_append, List.length_singleton] at h2 ⊢
        omega
    · have e : z = zn := by omega
      subst e
      have Hfr := Lib.hid (show l ++ [128] ++ List.replicate z 0 = frameE l by unfold frameE; rw [Hzn.out])
      rw [Hfr.out] at hbl ⊢
      have h8 := zerosE_spec l.length
      rw [← Hzn.out] at h8
      obtain ⟨n, hn⟩ : ∃ n, n = l.length + 1 + z := ⟨_, rfl⟩
      rw [← hn] at hbl h8
      have hbs : (ByteArray.mk (frameE l).toArray).size = n := by simp [ByteArray.size, hbl]
      have hnb : n ≤ 1000020 := by omega
      obtain ⟨r, hr⟩ : ∃ r, r = n % 16 := ⟨_, rfl⟩
      have t1 : (n : Int).tmod 16 = (r : Int) := by rw [Int.tmod_eq_emod_of_nonneg (by omega)]; omega
      have t3 : ((r : Int) != 8) = false := by have : r = 8 := by omega
                                               subst this; decide
      obtain ⟨q, hq⟩ : ∃ q, n = 4 * q := ⟨n / 4, by omega⟩
      obtain ⟨m, hm4⟩ : ∃ m, q + 2 = 4 * m := ⟨(q + 2) / 4, by omega⟩
      have Hpl := Lib.hid (show (padE l).length / 16 = m by rw [padE_length, ← Hzn.out]; omega)
      have Hpw := Lib.hid (fun i hi => padE_words l q i (by omega) (by rw [hbl, hq]) hi)
      have hq4 : (frameE l).length = 4 * q := by rw [hbl, hq]
      have Hwl := Lib.hid (wordsOf_length (frameE l) q)
      have Hbl := Lib.hid hbl
      have Hm4 := Lib.hid hm4
      have hqb : q ≤ 300000 := by omega
      clear hn hr h8 hbl hq hm4
      have elo : IntKind.u32.wrap (l.length : Int) = ((UInt32.ofNat l.length).toNat : Int) := by rw [u32_ofNat_toNat]; rfl
      have eh1 : (l.length : Int) / 4294967296 = ((l.length / 4294967296 : Nat) : Int) := by simp
      have ehi : IntKind.u32.wrap ((l.length / 4294967296 : Nat) : Int) = ((UInt32.ofNat (l.length / 4294967296)).toNat : Int) := by rw [u32_ofNat_toNat]; rfl
      generalize UInt32.ofNat l.length = lo at *
      generalize UInt32.ofNat (l.length / 4294967296) = hi at *
      generalize l.length / 4294967296 = lh at *
      go_wp2_with fail
      refine (rwords_c (frameE l) q _ hq4 (by rw [Hbl.out]; omega)).mono ?_
      rintro e w2 ⟨v, rfl, hW2⟩
      have hown := hW2.own
      rw [Hwl.out] at hown
      have H2 := Lib.hid (And.intro (H1.out.1.grow hW2.gro) (H1.out.2.tr hW2.gro))
      have hbase := hW2.gro.size
      clear hW2 t1 t3 hbs hq4
      generalize hwd : wordsOf (frameE l) q = ws at *
      have Hwd := Lib.hid hwd
      clear hwd
      go_upto_region 7 with  (at_builtin; refine wpList_append_new rfl (.tmp 24) (.tmp 30) 84 rfl w1.heap.size 28 (.int .u32 0) 1 4 Tryd.underlying84 info_u32g rfl (by omega) _ q _ rfl hown 2 2 ([lo, hi].map u) rfl rfl (u_one _) (by simp only [maxLen]; omega) (by omega) hbase ?_; intro v' w3 hown' hbel' _)
      have hown2 : w3.ownsRow w1.heap.size 28 1 v' (q + 2) ((ws ++ [lo, hi]).map u) := by rw [List.map_append]; exact hown'
      obtain ⟨g, cap, hv', hglt⟩ : ∃ g cap, v' = .slice (some ⟨g, 0, none⟩) (q + 2) cap ∧ g < w3.heap.size := by
        obtain ⟨_, h0 | ⟨g, cap, cur, hv, _, hgc, _⟩⟩ := hown'
        · omega
        · exact ⟨g, cap, hv, Blk.lt hgc⟩
      subst hv'
      have Hsl := Lib.hid (SlU.of_own hown2)
      have hgr3 : Grow w w3 := H2.out.2.trans (hbel'.mono H1.out.2.size)
      have hres3 := H2.out.1.below hbel' H1.out.1.lt
      clear hown' hown2 hbel' hown hbase
      have hga : Grow w3 (w3.alloc (.cells (us [1, 0, 0, 0, 0, 0, 0, 0]) 91)) := (Grow.refl _).alloc (Nat.le_refl _) _
      have HR3 := Lib.hid hres3
      have HG3 := Lib.hid hgr3
      have hl3 : w.heap.size < w3.heap.size := hres3.lt
      clear hres3 hgr3 eh1 elo ehi
      go_upto_region 8 with (fail)
      obtain ⟨b8, hb8⟩ : ∃ b, b = w3.heap.size := ⟨_, rfl⟩
      refine wp_gen (fun W => RDAt w W g (q + 2) cap b8 (ws ++ [lo, hi]) (absE (padE l) 0)) ⟨HR3.out.grow hga, hb8 ▸ Blk.new _ _ _, Hsl.out.grow hga, HG3.out.tr hga, by omega, by omega⟩ ?_
      rw [← hb8]
      clear hga hb8 HR3 HG3 Hsl hl3 hglt
      intro w4 h4
      have H4 := Lib.hid h4
      have hcap := h4.sl.1
      clear h4
      have HLn := Lib.hid (fun j => absE_length (padE l) j)
      have Hbk := Lib.hid (fun j (hj : j < m) => show blkE (padE l) (16 * j) = ⟨[(ws ++ [lo, hi]).getD (4 * j) 0, (ws ++ [lo, hi]).getD (4 * j + 1) 0, (ws ++ [lo, hi]).getD (4 * j + 2) 0, (ws ++ [lo, hi]).getD (4 * j + 3) 0], rfl⟩ from by
        have h4 := Hm4.out
        rw [Hpw.out (4 * j) (by omega), Hpw.out (4 * j + 1) (by omega), Hpw.out (4 * j + 2) (by omega), Hpw.out (4 * j + 3) (by omega)]
        unfold blkE
        simp only [show 4 * (4 * j) = 16 * j by omega, show 4 * (4 * j + 1) = 16 * j + 4 by omega, show 4 * (4 * j + 2) = 16 * j + 8 by omega, show 4 * (4 * j + 3) = 16 * j + 12 by omega])
      have Hend := Lib.hid (show front (absE (padE l) m) = (ofE l).1 by unfold ofE; rw [Hpl.out])
      generalize hwv : ws ++ [lo, hi] = wv at *
      clear hwv Hpw
      obtain ⟨N, hN⟩ : ∃ N, N = q + 2 := ⟨_, rfl⟩
      rw [← hN] at H4 hcap Hm4 ⊢
      have hNb : N ≤ 300002 := by omega
      clear hN
      go_wp2_with fail
      go_loopw [7] (fun i W => ∃ j : Nat, j ≤ m ∧ i = .int .i64 (4 * (j : Int)) ∧ RDAt w W g N cap b8 wv (absE (padE l) j)) (fun i _ => N - (intOf i).toNat)
      case atStart => exact ⟨0, by omega, rfl, H4.out⟩
      case round =>
        obtain ⟨j, hj, rfl, hM⟩ := hrel
        have HM := Lib.hid hM
        clear hM H4
        by_cases hlt : j < m
        · have hj1 : decide (4 * (j : Int) < (N : Int)) = true := by have := Hm4.out; simp; omega
          have hjN : 4 * j + 4 ≤ N := by have := Hm4.out; omega
          have HL := Lib.hid (HLn.out j)
          have hbj := Hbk.out j hlt
          have Hs := Lib.hid (show absE (padE l) (j + 1) = takeIn (absE (padE l) j) (blkE (padE l) (16 * j)).1 from rfl)
          rw [hbj] at Hs
          clear hbj
          have hsx : (us (absE (padE l) j)).size = 8 := by simp [us, absE_length]
          have Hsx := Lib.hid hsx
          clear hsx
          generalize absE (padE l) j = x at *
          obtain ⟨p, hp⟩ : ∃ p, p = 4 * j := ⟨_, rfl⟩
          have hpN : p + 4 ≤ N := by omega
          have e0 : 4 * (j : Int) = (p : Int) := by omega
          have e1 : IntKind.i64.wrap ((p : Int) + 1) = ((p + 1 : Nat) : Int) := by rw [IntKind.wrap_i64]; omega
          have e2 : IntKind.i64.wrap ((p : Int) + 2) = ((p + 2 : Nat) : Int) := by rw [IntKind.wrap_i64]; omega
          have e3 : IntKind.i64.wrap ((p : Int) + 3) = ((p + 3 : Nat) : Int) := by rw [IntKind.wrap_i64]; omega
          rw [← hp] at Hs hjN
          have Hp := Lib.hid hp
          clear hp
          have b0 : (0 : Int) ≤ (p : Int) := by omega
          have b1 : (p : Int) < N := by omega
          have b2 : 0 ≤ (p : Int) + 1 ∧ (p : Int) + 1 < N := by omega
          have b3 : 0 ≤ (p : Int) + 2 ∧ (p : Int) + 2 < N := by omega
          have b4 : 0 ≤ (p : Int) + 3 ∧ (p : Int) + 3 < N := by omega
          have n2 : ((p : Int) + 2).toNat = p + 2 := by omega
          have n3 : ((p : Int) + 3).toNat = p + 3 := by omega
          have f0 := Lib.hid (fun W (hW : RDAt w W g N cap b8 wv x) => hW.sl.at p (by omega))
          have f1 := Lib.hid (fun W (hW : RDAt w W g N cap b8 wv x) => hW.sl.at (p + 1) (by omega))
          have f2 := Lib.hid (fun W (hW : RDAt w W g N cap b8 wv x) => hW.sl.at (p + 2) (by omega))
          have f3 := Lib.hid (fun W (hW : RDAt w W g N cap b8 wv x) => hW.sl.at (p + 3) (by omega))
          simp only [Nat.zero_add] at f0 f1 f2 f3
          generalize wv.getD p 0 = y0 at *
          generalize wv.getD (p + 1) 0 = y1 at *
          generalize wv.getD (p + 2) 0 = y2 at *
          generalize wv.getD (p + 3) 0 = y3 at *
          have rt := Lib.hid (fun W => rtake_any x [y0, y1, y2, y3] HL.out rfl W)
          have hly : (takeIn x [y0, y1, y2, y3]).length = 8 := (takeIn_length _ _).trans HL.out
          have hsy : (us (takeIn x [y0, y1, y2, y3])).size = 8 := by simp [us, hly]
          have hony := us_one (takeIn x [y0, y1, y2, y3])
          simp only at Hs
          generalize hy : takeIn x [y0, y1, y2, y3] = y at *
          clear hly hy
          go_upto_region 11 with (fail)
          refine wp_region_tail 22 (fun W => RDAt w W g N cap b8 wv x) (by kernel_rfl) (by kernel_rfl) (HM.out.grow (Grow.refl _).drew) ?_
          simp only [List.take_succ_cons, List.take_zero]
          refine quiet_load_row rfl 91 (.tmp 6) rfl (b8) rfl _ ((us x)) (0, 0) _ (fun W hW => hW.box) Tryd.underlying91 rfl (by rw [Hsx.out]; kernel_rfl) ?_
          simp only [Act.put, List.setIfInBounds_toArray, List.set_cons_zero, List.set_cons_succ]
          (refine quiet_ex rfl ?_; apply Exists.intro; refine ⟨fun W hW => ?_, ?_⟩)
          · go_simp; try with_reducible rfl
          simp only [Act.put, List.setIfInBounds_toArray, List.set_cons_zero, List.set_cons_succ]
          (refine quiet_ex rfl ?_; apply Exists.intro; refine ⟨fun W hW => ?_, ?_⟩)
          · go_simp; try with_reducible rfl
          simp only [Act.put, List.setIfInBounds_toArray, List.set_cons_zero, List.set_cons_succ]
          (refine quiet_ex rfl ?_; apply Exists.intro; refine ⟨fun W hW => ?_, ?_⟩)
          · go_simp; try with_reducible rfl
          simp only [Act.put, List.setIfInBounds_toArray, List.set_cons_zero, List.set_cons_succ]
          (refine quiet_ex rfl ?_; apply Exists.intro; refine ⟨fun W hW => ?_, ?_⟩)
          · have c := f0.out W hW; go_simp; try with_reducible rfl
          simp only [Act.put, List.setIfInBounds_toArray, List.set_cons_zero, List.set_cons_succ]
          (refine quiet_ex rfl ?_; apply Exists.intro; refine ⟨fun W hW => ?_, ?_⟩)
          · go_simp; try with_reducible rfl
          simp only [Act.put, List.setIfInBounds_toArray, List.set_cons_zero, List.set_cons_succ]
          (refine quiet_ex rfl ?_; apply Exists.intro; refine ⟨fun W hW => ?_, ?_⟩)
          · go_simp; try with_reducible rfl
          simp only [Act.put, List.setIfInBounds_toArray, List.set_cons_zero, List.set_cons_succ]
          (refine quiet_ex rfl ?_; apply Exists.intro; refine ⟨fun W hW => ?_, ?_⟩)
          · go_simp; try with_reducible rfl
          simp only [Act.put, List.setIfInBounds_toArray, List.set_cons_zero, List.set_cons_succ]
          (refine quiet_ex rfl ?_; apply Exists.intro; refine ⟨fun W hW => ?_, ?_⟩)
          · go_simp; try with_reducible rfl
          simp only [Act.put, List.setIfInBounds_toArray, List.set_cons_zero, List.set_cons_succ]
          (refine quiet_ex rfl ?_; apply Exists.intro; refine ⟨fun W hW => ?_, ?_⟩)
          · have c := f1.out W hW; go_simp; try with_reducible rfl
          simp only [Act.put, List.setIfInBounds_toArray, List.set_cons_zero, List.set_cons_succ]
          (refine quiet_ex rfl ?_; apply Exists.intro; refine ⟨fun W hW => ?_, ?_⟩)
          · go_simp; try with_reducible rfl
          simp only [Act.put, List.setIfInBounds_toArray, List.set_cons_zero, List.set_cons_succ]
          (refine quiet_ex rfl ?_; apply Exists.intro; refine ⟨fun W hW => ?_, ?_⟩)
          · go_simp; try with_reducible rfl
          simp only [Act.put, List.setIfInBounds_toArray, List.set_cons_zero, List.set_cons_succ]
          (refine quiet_ex rfl ?_; apply Exists.intro; refine ⟨fun W hW => ?_, ?_⟩)
          · go_simp; try with_reducible rfl
          simp only [Act.put, List.setIfInBounds_toArray, List.set_cons_zero, List.set_cons_succ]
          (refine quiet_ex rfl ?_; apply Exists.intro; refine ⟨fun W hW => ?_, ?_⟩)
          · go_simp; try with_reducible rfl
          simp only [Act.put, List.setIfInBounds_toArray, List.set_cons_zero, List.set_cons_succ]
          (refine quiet_ex rfl ?_; apply Exists.intro; refine ⟨fun W hW => ?_, ?_⟩)
          · have c := f2.out W hW; go_simp; try with_reducible rfl
          simp only [Act.put, List.setIfInBounds_toArray, List.set_cons_zero, List.set_cons_succ]
          (refine quiet_ex rfl ?_; apply Exists.intro; refine ⟨fun W hW => ?_, ?_⟩)
          · go_simp; try with_reducible rfl
          simp only [Act.put, List.setIfInBounds_toArray, List.set_cons_zero, List.set_cons_succ]
          (refine quiet_ex rfl ?_; apply Exists.intro; refine ⟨fun W hW => ?_, ?_⟩)
          · go_simp; try with_reducible rfl
          simp only [Act.put, List.setIfInBounds_toArray, List.set_cons_zero, List.set_cons_succ]
          (refine quiet_ex rfl ?_; apply Exists.intro; refine ⟨fun W hW => ?_, ?_⟩)
          · go_simp; try with_reducible rfl
          simp only [Act.put, List.setIfInBounds_toArray, List.set_cons_zero, List.set_cons_succ]
          (refine quiet_ex rfl ?_; apply Exists.intro; refine ⟨fun W hW => ?_, ?_⟩)
          · go_simp; try with_reducible rfl
          simp only [Act.put, List.setIfInBounds_toArray, List.set_cons_zero, List.set_cons_succ]
          (refine quiet_ex rfl ?_; apply Exists.intro; refine ⟨fun W hW => ?_, ?_⟩)
          · have c := f3.out W hW; go_simp; try with_reducible rfl
          simp only [Act.put, List.setIfInBounds_toArray, List.set_cons_zero, List.set_cons_succ]
          (refine quiet_ex rfl ?_; apply Exists.intro; refine ⟨fun W hW => ?_, ?_⟩)
          · go_simp; try with_reducible rfl
          simp only [Act.put, List.setIfInBounds_toArray, List.set_cons_zero, List.set_cons_succ]
          (refine quiet_at rfl ⟨.agg (us y), fun W hW => ?_, ?_⟩)
          · go_simp; exact (rt.out _).mono (fun e w' h => ⟨h.1, hW.grow h.2⟩)
          simp only [Act.put, List.setIfInBounds_toArray, List.set_cons_zero, List.set_cons_succ]
          refine wpQuiet_nil ?_
          intro w5 h5
          have hB := h5.box
          have H5 := Lib.hid h5
          clear h5
          simp only [List.drop_succ_cons, List.drop_zero]
          go_wp2_with (refine wpList_store_row rfl 91 (.tmp 6) (.tmp 60) rfl (b8) (us y) rfl rfl _ _ hB (by rw [hsy]; kernel_rfl) (by rw [hsy, Hsx.out]) hony ?_)
          go_roundw
          case rel => exact ⟨j + 1, by omega, by have := Hp.out; go_num, by rw [Hs.out]; exact H5.out.store⟩
          case measure => have := Hp.out; simp [intOf]; omega
        · have e : j = m := by omega
          subst e
          have hj1 : decide (4 * (j : Int) < (N : Int)) = false := by have := Hm4.out; simp; omega
          have hR := HM.out.res
          have HL := HLn.out j
          have hB := HM.out.box
          have hl8 := hB.lt
          generalize absE (padE l) j = x at *
          have c0 := (hB.cell 0).trans (us_get x 0 (by rw [HL]; omega))
          have c1 := (hB.cell 1).trans (us_get x 1 (by rw [HL]; omega))
          have c2 := (hB.cell 2).trans (us_get x 2 (by rw [HL]; omega))
          have c3 := (hB.cell 3).trans (us_get x 3 (by rw [HL]; omega))
          have HB := Lib.hid hB
          clear hB HL
          unfold front at Hend
          generalize x.getD 0 0 = x0 at *
          generalize x.getD 1 0 = x1 at *
          generalize x.getD 2 0 = x2 at *
          generalize x.getD 3 0 = x3 at *
          have hone := us_one [x0, x1, x2, x3]
          have hs4 : (us [x0, x1, x2, x3]).size = 4 := by simp [us]
          go_wp2_with (refine wpList_store_row rfl 30 (.tmp 2) (.tmp 69) rfl w.heap.size (us [x0, x1, x2, x3]) rfl rfl 30 _ hR (by rw [hs4]; kernel_rfl) (by rw [hs4]; rfl) hone ?_)
          refine bodyPost_ret (results_cell_row (p := 2) (ty := 30) rfl _ _ w.heap.size 30 (us [x0, x1, x2, x3]) (0, 0) _ rfl (setRow_heap _ _ _ _ _ _ hR) Tryd.underlying30 rfl (by rw [hs4]; kernel_rfl)) rfl ⟨by rw [← Hend.out], ?_⟩
          exact HM.out.gro.setRow (Nat.le_refl _) _
end Go.Proofs.YtjokaennipmmaaaDoor
