import Derived.Test.YtddggjmfplohkaaDoorOpr
/- Programs as trees: expressions, statements, functions; their cells; what came in as an argument is one. -/
namespace Go.Proofs.YtddggjmfplohkaaDoor
open Go Go.ChangeShapes Go.WideShapes Go.ChangeAt Go.WideMaps Go.WideElems Go.RowKit
inductive Ex where
  | mk (kind op : Int) (num : UInt32) (name : ByteArray) (kids : List Ex)
inductive Sm where
  | mk (kind : Int) (name : ByteArray) (e : List Ex) (then_ else_ : List Sm)
structure Fu where
  name : ByteArray
  params : List ByteArray
  locals : List ByteArray
  word : Bool
  body : List Sm
structure Ar where
  name : ByteArray
  size : Int
structure Pg where
  vars : List ByteArray
  arrays : List Ar
  funcs : List Fu
mutual
def exC : Ex → List PV
  | .mk k o n s ks => [.v (.int .i64 k), .v (.int .i64 o), .v (.int .u32 n.toNat), .v (.string s), .sl .any (exsC ks)]
def exsC : List Ex → List (List PV)
  | [] => []
  | e :: l => exC e :: exsC l
end
mutual
def smC : Sm → List PV
  | .mk k s es t f => [.v (.int .i64 k), .v (.string s), .sl .any (exsC es), .sl .any (smsC t), .sl .any (smsC f)]
def smsC : List Sm → List (List PV)
  | [] => []
  | e :: l => smC e :: smsC l
end
def fuC (f : Fu) : List PV := [.v (.string f.name), .sl .any (ssP f.params), .sl .any (ssP f.locals), .v (.bool f.word), .sl .any (smsC f.body)]
def arC (a : Ar) : List PV := [.v (.string a.name), .v (.int .i64 a.size)]
def pgC (p : Pg) : List PV := [.sl .any (ssP p.vars), .sl .any (p.arrays.map arC), .sl .any (p.funcs.map fuC)]
theorem exsC_eq (l : List Ex) : exsC l = l.map exC := by
  induction l with
  | nil => rfl
  | cons e l ih => rw [exsC, ih]; rfl
theorem smsC_eq (l : List Sm) : smsC l = l.map smC := by
  induction l with
  | nil => rfl
  | cons e l ih => rw [smsC, ih]; rfl
theorem exsC_len (l : List Ex) : (exsC l).length = l.length := by rw [exsC_eq, List.length_map]
theorem smsC_len (l : List Sm) : (smsC l).length = l.length := by rw [smsC_eq, List.length_map]
/-- All rows are as long as the form lets them be. -/
inductive ExL : Ex → Prop
  | mk (k o : Int) (n : UInt32) (s : ByteArray) (ks : List Ex) (hs : s.size ≤ maxLen) (hl : ks.length ≤ reachBytes) (hk : ∀ e ∈ ks, ExL e) : ExL (.mk k o n s ks)
inductive SmL : Sm → Prop
  | mk (k : Int) (s : ByteArray) (es : List Ex) (t f : List Sm) (hs : s.size ≤ maxLen) (he : es.length ≤ reachBytes) (ht : t.length ≤ reachBytes) (hf : f.length ≤ reachBytes) (hel : ∀ e ∈ es, ExL e) (htl : ∀ x ∈ t, SmL x) (hfl : ∀ x ∈ f, SmL x) : SmL (.mk k s es t f)
/-- Numbers of kinds are the machine's. -/
def extT (i : Nat) : TypeId :=
  match Nat.beq i 0 with
  | true => 102
  | false => 82
def extX (i : Nat) (ps : List PV) : Prop :=
  match Nat.beq i 0 with
  | true => ∃ e, ps = exC e ∧ ExL e
  | false => ∃ s, ps = smC s ∧ SmL s
theorem ext_leaf (i : Nat) (ps : List PV) (h : extX i ps) : ∀ p ∈ ps, p.leaf = true := by
  unfold extX at h
  split at h
  · obtain ⟨⟨k, o, n, s, ks⟩, rfl, -⟩ := h
    intro p hp
    simp only [exC, List.mem_cons, List.not_mem_nil, or_false] at hp
    rcases hp with rfl | rfl | rfl | rfl | rfl <;> rfl
  · obtain ⟨⟨k, s, es, t, f⟩, rfl, -⟩ := h
    intro p hp
    simp only [smC, List.mem_cons, List.not_mem_nil, or_false] at hp
    rcases hp with rfl | rfl | rfl | rfl | rfl <;> rfl
/-- The fields of an expression and of a statement. -/
def shE : Sh := .cons (.int .i64) (.cons (.int .i64) (.cons (.int .u32) (.cons .str (.cons (.sl (.ext 0)) .nil))))
def shS : Sh := .cons (.int .i64) (.cons .str (.cons (.sl (.ext 0)) (.cons (.sl (.ext 1)) (.cons (.sl (.ext 1)) .nil))))
theorem all_ex {α : Type} {X : List PV → Prop} {f : α → List PV} {L : α → Prop} (hf : ∀ e, X e → ∃ a, e = f a ∧ L a) : ∀ {es : List (List PV)}, (∀ e ∈ es, X e) → ∃ l : List α, es = l.map f ∧ ∀ a ∈ l, L a
  | [], _ => ⟨[], rfl, fun _ h => (by cases h)⟩
  | e :: es, h => by
    obtain ⟨a, rfl, ha⟩ := hf e (h e (by simp))
    obtain ⟨l, rfl, hl⟩ := all_ex (es := es) hf (fun e' he => h e' (List.mem_cons_of_mem _ he))
    exact ⟨a :: l, rfl, fun b hb => by
      rcases List.mem_cons.1 hb with rfl | hb
      · exact ha
      · exact hl b hb⟩
theorem is_exs {cs : List PV} (h : Is extX (.sl (.ext 0)) cs) : ∃ l : List Ex, cs = [.sl .any (exsC l)] ∧ l.length ≤ reachBytes ∧ ∀ e ∈ l, ExL e := by
  obtain ⟨es, hl, he, rfl⟩ := h
  obtain ⟨l, rfl, hL⟩ := all_ex (f := exC) (L := ExL) (X := extX 0) (fun e h => h) he
  exact ⟨l, by rw [exsC_eq], by simpa using hl, hL⟩
theorem is_sms {cs : List PV} (h : Is extX (.sl (.ext 1)) cs) : ∃ l : List Sm, cs = [.sl .any (smsC l)] ∧ l.length ≤ reachBytes ∧ ∀ e ∈ l, SmL e := by
  obtain ⟨es, hl, he, rfl⟩ := h
  obtain ⟨l, rfl, hL⟩ := all_ex (f := smC) (L := SmL) (X := extX 1) (fun e h => h) he
  exact ⟨l, by rw [smsC_eq], by simpa using hl, hL⟩
theorem u32_of {n : Int} (h : (Lit.int .u32 n).wf = true) : ∃ x : UInt32, n = (x.toNat : Int) := by
  have hb := bounds_u32 h
  refine ⟨UInt32.ofNat n.toNat, ?_⟩
  rw [UInt32.toNat_ofNat', Nat.mod_eq_of_lt (by omega)]; omega
theorem is_shE {cs : List PV} (h : Is extX shE cs) : ∃ e, cs = exC e ∧ ExL e := by
  obtain ⟨_, _, ⟨k, _, rfl⟩, ⟨_, _, ⟨o, _, rfl⟩, ⟨_, _, ⟨n, hn, rfl⟩, ⟨_, _, ⟨s, hs, rfl⟩, ⟨_, _, hk, rfl, rfl⟩, rfl⟩, rfl⟩, rfl⟩, rfl⟩ := h
  obtain ⟨ks, rfl, h1, h2⟩ := is_exs hk
  obtain ⟨x, rfl⟩ := u32_of hn
  exact ⟨.mk k o x s ks, by simp [exC], .mk _ _ _ _ _ hs h1 h2⟩
theorem is_shS {cs : List PV} (h : Is extX shS cs) : ∃ e, cs = smC e ∧ SmL e := by
  obtain ⟨_, _, ⟨k, _, rfl⟩, ⟨_, _, ⟨s, hs, rfl⟩, ⟨_, _, he, ⟨_, _, ht, ⟨_, _, hf, rfl, rfl⟩, rfl⟩, rfl⟩, rfl⟩, rfl⟩ := h
  obtain ⟨es, rfl, h1, h2⟩ := is_exs he
  obtain ⟨t, rfl, h3, h4⟩ := is_sms ht
  obtain ⟨f, rfl, h5, h6⟩ := is_sms hf
  exact ⟨.mk k s es t f, by simp [smC], .mk _ _ _ _ _ hs h1 h3 h5 h2 h4 h6⟩
section
variable {H : Type} {enc : TypeId × Value → H} {w : World} {base : Nat} {spare : Nat → Bool} {held : Bool}
theorem open_ext : ∀ N m, m ≤ N → ExtOpen enc Tryd.prog w base spare held extT extX m := by
  intro N
  induction N with
  | zero =>
    intro m hm i cs y ht _
    obtain rfl : m = 0 := by omega
    simp [DataW.trod] at ht
  | succ N ih =>
    intro m hm i cs y ht hlw
    have key : ∀ (t : TypeId) (f : Sh) (fs : Array Field), Tryd.prog.underlying t = some (.struct fs) → isTy f = false → shG Tryd.prog extT f 0 fs.toList 0 = true → (fs.toList.map fun g => Tryd.prog.cellsOf g.type).sum = Tryd.prog.cellsOf t →
        DataW.trod enc Tryd.prog w base spare held m t cs = some y → Light Tryd.prog t y.1 → cs.length = Tryd.prog.cellsOf t ∧ ∃ ps, Is extX f ps ∧ Reps w ps cs := by
      intro t f fs hu hty hsh hsum ht hlw
      obtain ⟨xs, n, hfn, hyy, hl, hlen, hel⟩ := DataW.trod_struct hu ht
      obtain ⟨ps, h3, h4, h5⟩ := (open_sh ext_leaf N ih f).2 fs.toList 0 n cs (by omega) hty hsh (fun g hg => by
        obtain ⟨i, hi, rfl⟩ := List.mem_iff_getElem.1 hg
        have h6 := hel i fs[i] (by simp)
        rw [List.getElem?_eq_getElem (by rw [hlen]; simpa using hi)] at h6
        refine ⟨_, by simpa using h6, fun k hk => hlw k ?_⟩
        rw [hyy]
        simp only [DataW.weights, hu]
        exact DataW.weights_mem_each (j := i) (by rw [List.getElem?_map, List.getElem?_eq_getElem hi]; rfl) (by simp [List.getElem?_map, List.getElem?_eq_getElem (show i < xs.length by rw [hlen]; simpa using hi)]) k hk)
      exact ⟨hl, ps, h3, by rw [h4, hl, hsum], fun i hi => by have := h5 i hi; rwa [Nat.zero_add] at this⟩
    cases i with
    | zero =>
      obtain ⟨h1, ps, h2, h3⟩ := key 102 shE _ Tryd.underlying102 rfl (by kernel_rfl) (by kernel_rfl) ht hlw
      exact ⟨h1, ps, is_shE h2, h3⟩
    | succ i =>
      obtain ⟨h1, ps, h2, h3⟩ := key 82 shS _ Tryd.underlying82 rfl (by kernel_rfl) (by kernel_rfl) ht hlw
      exact ⟨h1, ps, is_shS h2, h3⟩
/-- The shape of a program. -/
def shF : Sh := .cons .str (.cons (.sl .str) (.cons (.sl .str) (.cons .bool (.cons (.sl (.ext 1)) .nil))))
def shA : Sh := .cons .str (.cons (.int .i64) .nil)
def shP : Sh := .st (.cons (.sl .str) (.cons (.sl (.st shA)) (.cons (.sl (.st shF)) .nil)))
structure FuL (f : Fu) : Prop where
  name : f.name.size ≤ maxLen
  params : f.params.length ≤ reachBytes
  locals : f.locals.length ≤ reachBytes
  pl : ∀ s ∈ f.params, s.size ≤ maxLen
  ll : ∀ s ∈ f.locals, s.size ≤ maxLen
  body : f.body.length ≤ reachBytes
  bl : ∀ s ∈ f.body, SmL s
structure PgL (p : Pg) : Prop where
  vars : p.vars.length ≤ reachBytes
  arrays : p.arrays.length ≤ reachBytes
  funcs : p.funcs.length ≤ reachBytes
  vl : ∀ s ∈ p.vars, s.size ≤ maxLen
  al : ∀ a ∈ p.arrays, a.name.size ≤ maxLen ∧ (Lit.int .i64 a.size).wf = true
  fl : ∀ f ∈ p.funcs, FuL f
theorem is_sss {cs : List PV} (h : Is extX (.sl .str) cs) : ∃ l : List ByteArray, cs = [.sl .any (ssP l)] ∧ l.length ≤ reachBytes ∧ ∀ s ∈ l, s.size ≤ maxLen := by
  obtain ⟨es, hl, he, rfl⟩ := h
  obtain ⟨l, rfl, hL⟩ := all_ex (f := sP) (L := fun s => s.size ≤ maxLen) (X := Is extX .str) (fun e h => by obtain ⟨s, hs, rfl⟩ := h; exact ⟨s, rfl, hs⟩) he
  exact ⟨l, rfl, by simpa using hl, hL⟩
theorem is_shA {cs : List PV} (h : Is extX (.st shA) cs) : ∃ a, cs = arC a ∧ a.name.size ≤ maxLen ∧ (Lit.int .i64 a.size).wf = true := by
  obtain ⟨_, _, ⟨s, hs, rfl⟩, ⟨_, _, ⟨n, hn, rfl⟩, rfl, rfl⟩, rfl⟩ := h
  exact ⟨⟨s, n⟩, rfl, hs, hn⟩
theorem is_shF {cs : List PV} (h : Is extX (.st shF) cs) : ∃ f, cs = fuC f ∧ FuL f := by
  obtain ⟨_, _, ⟨s, hs, rfl⟩, ⟨_, _, hp, ⟨_, _, hl, ⟨_, _, ⟨b, rfl⟩, ⟨_, _, hb, rfl, rfl⟩, rfl⟩, rfl⟩, rfl⟩, rfl⟩ := h
  obtain ⟨ps, rfl, h1, h2⟩ := is_sss hp
  obtain ⟨ls, rfl, h3, h4⟩ := is_sss hl
  obtain ⟨bs, rfl, h5, h6⟩ := is_sms hb
  exact ⟨⟨s, ps, ls, b, bs⟩, rfl, ⟨hs, h1, h3, h2, h4, h5, h6⟩⟩
theorem is_shP {cs : List PV} (h : Is extX shP cs) : ∃ p, cs = pgC p ∧ PgL p := by
  obtain ⟨_, _, hv, ⟨_, _, ha, ⟨_, _, hf, rfl, rfl⟩, rfl⟩, rfl⟩ := h
  obtain ⟨vs, rfl, h1, h2⟩ := is_sss hv
  obtain ⟨es, hl, he, rfl⟩ := ha
  obtain ⟨ars, rfl, h4⟩ := all_ex (f := arC) (L := fun a => a.name.size ≤ maxLen ∧ (Lit.int .i64 a.size).wf = true) (X := Is extX (.st shA)) (fun e h => is_shA h) he
  obtain ⟨es, hl', he', rfl⟩ := hf
  obtain ⟨fs, rfl, h6⟩ := all_ex (f := fuC) (L := FuL) (X := Is extX (.st shF)) (fun e h => is_shF h) he'
  exact ⟨⟨vs, ars, fs⟩, rfl, ⟨h1, by simpa using hl, by simpa using hl', h2, h4, h6⟩⟩
set_option maxRecDepth 100000 in
/-- What came in as a program is one. -/
theorem open_pg {r : Reach} {b0 : Nat} {v : Value} {d : DataW H} {p : List MemPlace} (hv : Value.okWide Tryd.prog w r b0 26 v) (h : DataW.Trod enc Tryd.prog w base spare held 26 v d p) (hw : Light Tryd.prog 26 d) :
    ∃ q, PgL q ∧ Rep (allOf w) (.agg (pgC q)) v := by
  obtain ⟨fuel, hf⟩ := h
  obtain ⟨hl, ps, h1, h2⟩ := (open_sh ext_leaf fuel (open_ext fuel) shP).1 _ fuel _ _ (Nat.le_refl _) rfl (by kernel_rfl) hf hw
  obtain ⟨q, rfl, hq⟩ := is_shP h1
  obtain ⟨cs, rfl, _⟩ := okWide_struct Tryd.underlying26 hv
  refine ⟨q, hq, .agg _ _ (by rw [h2.1]; simp [Value.cells]) fun i hi => ?_⟩
  have := h2.2 i hi
  have hi' : i < cs.size := by have := h2.1; simp [Value.cells] at this; omega
  simpa [Value.cells, List.getD, Array.getD, hi'] using this
end
end Go.Proofs.YtddggjmfplohkaaDoor
