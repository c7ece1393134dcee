import Derived.Test.YtddggjmfplohkaaDoorVr
import Derived.Test.YtddggjmfplohkaaDoorB1
import Derived.Lib.ItoaMem
/- The machine of plain values over this program: what the laid variables hold; strings and rows of strings as its values; contracts as sayings. -/
namespace Go.Proofs.YtddggjmfplohkaaDoor
open Go.RowKit
def sP (s : ByteArray) : List PV := [.v (.string s)]
def ssP (l : List ByteArray) : List (List PV) := l.map sP
def signsL : List ByteArray := [⟨#[43]⟩, ⟨#[45]⟩, ⟨#[42]⟩, ⟨#[47]⟩, ⟨#[37]⟩, ⟨#[38]⟩, ⟨#[124]⟩, ⟨#[94]⟩, ⟨#[60, 60]⟩, ⟨#[62, 62]⟩, ⟨#[60]⟩, ⟨#[61, 61]⟩]
def signsP : List PV := [.v (.string ⟨#[43]⟩), .v (.string ⟨#[45]⟩), .v (.string ⟨#[42]⟩), .v (.string ⟨#[47]⟩), .v (.string ⟨#[37]⟩), .v (.string ⟨#[38]⟩), .v (.string ⟨#[124]⟩), .v (.string ⟨#[94]⟩), .v (.string ⟨#[60, 60]⟩), .v (.string ⟨#[62, 62]⟩), .v (.string ⟨#[60]⟩), .v (.string ⟨#[61, 61]⟩)]
def wordsL : List ByteArray := [⟨#[118, 97, 114]⟩, ⟨#[97, 114, 114, 97, 121]⟩, ⟨#[102, 117, 110, 99]⟩, ⟨#[119, 111, 114, 100]⟩, ⟨#[105, 102]⟩, ⟨#[101, 108, 115, 101]⟩, ⟨#[119, 104, 105, 108, 101]⟩, ⟨#[114, 101, 116, 117, 114, 110]⟩, ⟨#[112, 117, 116]⟩, ⟨#[103, 101, 116]⟩]
def wordsP : List PV := [.v (.string ⟨#[118, 97, 114]⟩), .v (.string ⟨#[97, 114, 114, 97, 121]⟩), .v (.string ⟨#[102, 117, 110, 99]⟩), .v (.string ⟨#[119, 111, 114, 100]⟩), .v (.string ⟨#[105, 102]⟩), .v (.string ⟨#[101, 108, 115, 101]⟩), .v (.string ⟨#[119, 104, 105, 108, 101]⟩), .v (.string ⟨#[114, 101, 116, 117, 114, 110]⟩), .v (.string ⟨#[112, 117, 116]⟩), .v (.string ⟨#[103, 101, 116]⟩)]
def tsignsL : List ByteArray := [⟨#[60, 60]⟩, ⟨#[62, 62]⟩, ⟨#[61, 61]⟩, ⟨#[38, 38]⟩, ⟨#[124, 124]⟩, ⟨#[40]⟩, ⟨#[41]⟩, ⟨#[123]⟩, ⟨#[125]⟩, ⟨#[91]⟩, ⟨#[93]⟩, ⟨#[59]⟩, ⟨#[44]⟩, ⟨#[61]⟩, ⟨#[43]⟩, ⟨#[45]⟩, ⟨#[42]⟩, ⟨#[47]⟩, ⟨#[37]⟩, ⟨#[38]⟩, ⟨#[124]⟩, ⟨#[94]⟩, ⟨#[60]⟩, ⟨#[33]⟩]
def tsignsP : List PV := [.v (.string ⟨#[60, 60]⟩), .v (.string ⟨#[62, 62]⟩), .v (.string ⟨#[61, 61]⟩), .v (.string ⟨#[38, 38]⟩), .v (.string ⟨#[124, 124]⟩), .v (.string ⟨#[40]⟩), .v (.string ⟨#[41]⟩), .v (.string ⟨#[123]⟩), .v (.string ⟨#[125]⟩), .v (.string ⟨#[91]⟩), .v (.string ⟨#[93]⟩), .v (.string ⟨#[59]⟩), .v (.string ⟨#[44]⟩), .v (.string ⟨#[61]⟩), .v (.string ⟨#[43]⟩), .v (.string ⟨#[45]⟩), .v (.string ⟨#[42]⟩), .v (.string ⟨#[47]⟩), .v (.string ⟨#[37]⟩), .v (.string ⟨#[38]⟩), .v (.string ⟨#[124]⟩), .v (.string ⟨#[94]⟩), .v (.string ⟨#[60]⟩), .v (.string ⟨#[33]⟩)]
/-- A variable holds these texts. -/
def HasS (w : World) (g : Nat) (l : List ByteArray) : Prop := ∀ j, j < l.length → w.cell? ⟨g, j, none⟩ = some (.string (l.getD j ByteArray.empty))
/-- What is laid for the printer: the signs, the powers of ten. -/
def LaidT (w : World) : Prop := 7 ≤ w.heap.size ∧ HasS w 4 signsL ∧ Lib.TabIs Tryd.prog w "internal/strconv.uint64pow10" .u64 Lib.pow10Tab
/-- What is laid for the reader, too: the words, and the signs of the tokens. -/
def LaidU (w : World) : Prop := LaidT w ∧ HasS w 1 wordsL ∧ HasS w 0 tsignsL
def globT (g : Nat) : PV :=
  match Nat.beq g 4 with
  | true => .ro signsP
  | false => .top
def globU (g : Nat) : PV :=
  match Nat.beq g 4 with
  | true => .ro signsP
  | false => match Nat.beq g 1 with
    | true => .ro wordsP
    | false => match Nat.beq g 0 with
      | true => .ro tsignsP
      | false => .top
theorem HasS.keep {w w' : World} {g : Nat} {l : List ByteArray} (h : HasS w g l) (hg : w'.heap[g]? = w.heap[g]?) : HasS w' g l := fun j hj => (World.cell?_of_block hg).trans (h j hj)
theorem CX_mixed : Tryd.prog.follows .mixedOrders = true := by kernel_rfl
theorem tab_keep {w w' : World} (h : Lib.TabIs Tryd.prog w "internal/strconv.uint64pow10" .u64 Lib.pow10Tab) (hg : w'.heap[3]? = w.heap[3]?) : Lib.TabIs Tryd.prog w' "internal/strconv.uint64pow10" .u64 Lib.pow10Tab := by
  have hn : Tryd.prog.globalNamed "internal/strconv.uint64pow10" = some 3 := by kernel_rfl
  unfold Lib.TabIs World.var? at *
  rw [hn] at h ⊢
  simp only [Option.bind_some] at h ⊢
  rw [hg]
  exact h
theorem CX_gpk (w w' : World) (h : ∀ k, k < 7 → w'.heap[k]? = w.heap[k]?) (hp : LaidT w) : LaidT w' := by
  obtain ⟨h1, h2, h3⟩ := hp
  refine ⟨?_, h2.keep (h _ (by decide)), tab_keep h3 (h 3 (by decide))⟩
  rcases Nat.lt_or_ge 6 w'.heap.size with hlt | hge
  · exact hlt
  · exfalso
    have := h 6 (by omega)
    rw [Array.getElem?_eq_none hge, Array.getElem?_eq_getElem (by omega)] at this
    cases this
theorem CU_gpk (w w' : World) (h : ∀ k, k < 7 → w'.heap[k]? = w.heap[k]?) (hp : LaidU w) : LaidU w' := ⟨CX_gpk w w' h hp.1, hp.2.1.keep (h _ (by decide)), hp.2.2.keep (h _ (by decide))⟩
/-- What is said where less is laid holds where more is. -/
theorem SpecH.up {C C' : Ctx} (hP : C'.P = C.P) (hs : C'.gs = C.gs) (hg : ∀ g, C'.glob g = C.glob g ∨ C.glob g = .top) (hGP : ∀ w, C'.GP w → C.GP w) {f : FuncId} {ars : List PV} {ins : List HC} {r : PV} {outs : List HC} (h : SpecH C f ars ins r outs) : SpecH C' f ars ins r outs := by
  intro w F β vs hgp hgs hglob hargs hbox hF h1 h2 h3 hb
  rw [hP]
  rw [hs] at hgs
  refine h w F β vs (hGP w hgp) hgs (fun g => ?_) hargs hbox hF h1 (fun b g hb => hs ▸ h2 b g hb) h3 ⟨fun j T e s hj => ?_, hb.2⟩
  · rcases hg g with e | e
    · exact e ▸ hglob g
    · rw [e]; exact .top _
  · obtain ⟨g, v, q1, q2, q3⟩ := hb.1 j T e s hj
    exact ⟨g, v, q1, q2, fun k hk => hs ▸ q3 k hk⟩
theorem up_c {f : FuncId} {ars : List PV} {ins : List HC} {r : PV} {outs : List HC} (h : SpecH (Ctx.mk Tryd.prog globT 7 LaidT) f ars ins r outs) : SpecH (Ctx.mk Tryd.prog globU 7 LaidU) f ars ins r outs := by
  refine SpecH.up (C := (Ctx.mk Tryd.prog globT 7 LaidT)) (C' := (Ctx.mk Tryd.prog globU 7 LaidU)) rfl rfl (fun g => ?_) (fun _ h => h.1) h
  show globU g = globT g ∨ globT g = .top
  unfold globU globT
  cases Nat.beq g 4 with
  | true => exact .inl rfl
  | false => exact .inr rfl
theorem up_s {f : FuncId} {ars : List PV} {ins : List (List PV)} {r : PV} {outs : List (List PV)} (h : Spec (Ctx.mk Tryd.prog globT 7 LaidT) f ars ins r outs) : Spec (Ctx.mk Tryd.prog globU 7 LaidU) f ars ins r outs := up_c h
theorem wrap64 {x : Int} (h1 : -9223372036854775808 ≤ x) (h2 : x < 9223372036854775808) : IntKind.i64.wrap x = x := by rw [IntKind.wrap_i64]; omega
theorem val64 {x : Int} {n : Nat} (h : x = n) (hn : n < 9223372036854775808) : PV.v (.int .i64 (IntKind.i64.wrap x)) = .v (.int .i64 (n : Int)) := by rw [h, wrap64 (by omega) (by omega)]
theorem ssP_len (l : List ByteArray) : (ssP l).length = l.length := List.length_map _
theorem ssP_at {l : List ByteArray} {j : Nat} (h : j < l.length) : (ssP l)[j]? = some (sP (l.getD j ByteArray.empty)) := by simp [ssP, List.getD, h]
theorem ssP_getD {l : List ByteArray} {j : Nat} (h : j < l.length) : (ssP l).getD j [] = sP (l.getD j ByteArray.empty) := by simp [ssP, List.getD, h]
theorem ssP_app (l l' : List ByteArray) : ssP l ++ ssP l' = ssP (l ++ l') := by simp [ssP]
theorem ssP_wide (l : List ByteArray) (i : Nat) (h : i < (ssP l).length) : ((ssP l).getD i []).length = 1 := by
  rw [ssP_getD (by rw [ssP_len] at h; exact h)]; rfl
theorem appOk_ss {zs sz by_ : Nat} {l l' : List ByteArray} (hz : zs = 1) (hs : sz = 1) (hb : by_ = 16) (h : l.length + l'.length ≤ 1000000000) : AppOk zs sz by_ (ssP l) (ssP l') := by
  subst hz hs hb
  exact ⟨rfl, by omega, ssP_wide l, ssP_wide l', by rw [ssP_len, ssP_len]; simp only [maxLen]; omega, by rw [ssP_len, ssP_len]; omega⟩
theorem repC2 {E : Env} {p q : PV} {vs : Array Value} (h : RepC E [p, q] vs) : ∃ x y, vs = #[x, y] ∧ Rep E p x ∧ Rep E q y := by
  obtain ⟨hl, h⟩ := h
  refine ⟨vs.getD 0 undef, vs.getD 1 undef, ?_, h 0 (by simp), h 1 (by simp)⟩
  apply Array.ext
  · exact hl.symm
  · intro i hi _
    simp at hl
    have : i = 0 ∨ i = 1 := by omega
    rcases this with rfl | rfl <;> simp [Array.getD, hi]
/-- A contract that gives back one value, whatever the world. -/
theorem spec_val {C : Ctx} {f : FuncId} {ars : List PV} {r : PV} {x : Value} (hr : r.plain = true) (hx : ∀ E, Rep E r x) (h : ∀ (E : Env) (vs : Array Value), C.GP E.w → (∀ g i, E.F g i → g < E.w.heap.size) → RepC E ars vs → Calls C.P f vs E.w fun e w' => e = .returned x ∧ Grow E.w w') :
    Spec C f ars [] r [] := by
  intro w F β vs hgp _ _ hargs _ hF _ hβ _ _
  refine (h ⟨w, F, β, fun _ => none⟩ vs hgp hF hargs).mono ?_
  rintro e w' ⟨rfl, hg⟩
  exact ⟨x, F, rfl, hg.os, hg.tape, hg.output, hg.size, fun k hk _ _ => hg.block k hk, fun _ _ h => h, fun _ _ h => .inl h, hr, hx _, rfl, fun j hj => (by simp at hj), fun j T e s hj => (by simp at hj)⟩
/-- The cells of a world's blocks; none is written. -/
def allOf (w : World) : Env := ⟨w, fun g _ => g < w.heap.size, fun _ => none, fun _ => none⟩
theorem rep_ro {w : World} (h7 : 7 ≤ w.heap.size) {g : Nat} (hg : g < 7) {l : List ByteArray} (hs : HasS w g l) : Rep (allOf w) (.ro (l.map fun s => .v (.string s))) (.pointer (some ⟨g, 0, none⟩)) := by
  refine .ro _ _ 0 (fun i => .string (l.getD i ByteArray.empty)) (fun i hi => ?_) (fun i hi => ?_)
  · have hi : i < l.length := by simpa using hi
    refine ⟨?_, by show g < w.heap.size; omega, rfl⟩
    show w.cell? ⟨_, 0 + i, none⟩ = _
    rw [Nat.zero_add]
    exact hs i hi
  · have hi : i < l.length := by simpa using hi
    have e : (l.map fun s => PV.v (.string s)).getD i .top = .v (.string (l.getD i ByteArray.empty)) := by simp [List.getD, hi]
    rw [e]
    exact .v _
theorem globU_ok (w : World) (h : LaidU w) (g : Nat) : Rep (allOf w) (globU g) (.pointer (some ⟨g, 0, none⟩)) := by
  unfold globU
  split
  · rename_i e
    obtain rfl := Nat.eq_of_beq_eq_true e
    exact rep_ro h.1.1 (by decide) h.1.2.1
  · split
    · rename_i e
      obtain rfl := Nat.eq_of_beq_eq_true e
      exact rep_ro h.1.1 (by decide) h.2.1
    · split
      · rename_i e
        obtain rfl := Nat.eq_of_beq_eq_true e
        exact rep_ro h.1.1 (by decide) h.2.2
      · exact .top _
theorem walk_gen {C : Ctx} {f : FuncId} {ars : List PV} {vs : Array Value} {w : World} {b : Bool} (h : Spec C f ars [] (.v (.bool b)) []) (hP : C.GP w) (h7 : C.gs ≤ w.heap.size) (hg : ∀ g, Rep (allOf w) (C.glob g) (.pointer (some ⟨g, 0, none⟩))) (ha : RepC (allOf w) ars vs) :
    Calls C.P f vs w fun e w' => e = .returned (.bool b) ∧ Grow w w' := by
  refine (h w (fun g _ => g < w.heap.size) (fun _ => none) vs hP h7 hg ha (fun j hj => by simp at hj) (fun _ _ h => h) (fun _ _ _ h => (by cases h)) (fun _ _ h => (by cases h)) (fun _ _ _ h => (by cases h)) ⟨fun j T e s hj => (by simp at hj), fun j j' T e s T' e' s' hj => (by simp at hj)⟩).mono ?_
  rintro e w' ⟨x, F', rfl, h1, h2, h3, h4, h5, -, -, -, hr, -⟩
  refine ⟨by rw [hr.v_eq], h1, h2, h3, h4, fun k hk => h5 k hk (fun b hb => (by cases hb)) ?_⟩
  rintro ⟨j, T, e, s, g, v, q, -⟩
  simp at q
theorem walk_ofU {f : FuncId} {ars : List PV} {vs : Array Value} {w : World} {b : Bool} (h : Spec (Ctx.mk Tryd.prog globU 7 LaidU) f ars [] (.v (.bool b)) []) (hP : LaidU w) (ha : RepC (allOf w) ars vs) : Calls Tryd.prog f vs w fun e w' => e = .returned (.bool b) ∧ Grow w w' :=
  walk_gen h hP hP.1.1 (globU_ok w hP) ha
theorem args1 {E : Env} {p : PV} {x : Value} (h : Rep E p x) : RepC E [p] #[x] := ⟨rfl, fun i hi => by
  have hi : i < 1 := hi
  match i, hi with
  | 0, _ => exact h⟩
/- The steps of a walk as lemmas: what each asks is closed by the tactics that it bears; what is left is the next state. -/
theorem clo_ {p : Prop} (h : p := by first | with_reducible rfl | assumption | decide | simpa | fail) : p := h
theorem want_ {p : Prop} (h : p := by first | exact wanted_none rfl | exact wanted_t rfl rfl rfl clo_ | fail) : p := h
theorem skip_ {p : Prop} (h : p := by first | exact wanted_f rfl rfl rfl clo_ | exact wanted_u rfl rfl rfl | fail) : p := h
theorem step_ {p : Prop} (h : p := by first | (intro K hK; (conv => whnf); (repeat ((first | refine And.intro (by first | with_reducible rfl | (refine (?_ : _ = true); kernel_rfl) | (refine (?_ : _ = HC.row _ _); kernel_rfl) | exact Nat.le_of_ble_eq_true rfl | assumption | decide | exact True.intro | exact Tryd.underlying4) ?_ | refine ⟨_, _, rfl, ssP_at (by first | assumption | omega), rfl, ?_⟩ | refine Or.inl ?_ | refine ⟨_, rfl, by decide, ?_⟩ | refine bsplit_t (by first | with_reducible rfl | assumption | decide | simpa) ?_ | refine bsplit_f (by first | with_reducible rfl | assumption | decide | simpa) ?_); conv => whnf)); exact hK) | fail) : p := h
theorem put_ {p : Prop} (h : p := by first | (intro K hK; (conv => whnf); exact hK) | fail) : p := h
/-- The state that is left; so that it isn't taken for a fact. -/
inductive Left (q : Prop) : Prop
  | mk (h : q)
theorem Left.get {q : Prop} (h : Left q) : q := by cases h; assumption
theorem ev_ {p q : Prop} (hq : q) (k : Left q → p := by first | (intro hq; (conv => whnf); (repeat ((first | refine And.intro (by first | with_reducible rfl | (refine (?_ : _ = true); kernel_rfl) | (refine (?_ : _ = HC.row _ _); kernel_rfl) | exact Nat.le_of_ble_eq_true rfl | assumption | decide | exact True.intro | exact Tryd.underlying4) ?_ | refine ⟨_, _, rfl, ssP_at (by first | assumption | omega), rfl, ?_⟩ | refine Or.inl ?_ | refine ⟨_, rfl, by decide, ?_⟩ | refine bsplit_t (by first | with_reducible rfl | assumption | decide | simpa) ?_ | refine bsplit_f (by first | with_reducible rfl | assumption | decide | simpa) ?_); conv => whnf)); exact hq.get) | fail) : p := k ⟨hq⟩
theorem go_ {p q : Prop} (hq : q) (k : Left q → p := by first | (intro hq; (repeat (first | ((with_reducible apply run_y); (exact want_); (exact step_)) | ((with_reducible apply run_skip); (exact skip_); (exact put_)) | ((with_reducible apply run_drawK); (refine (?_ : _ = true); kernel_rfl)) | with_reducible (first | apply c_seq | apply c_then | apply c_then_exit | apply c_then_ret | apply c_skip | apply c_exit | apply c_ret | apply c_reg | apply c_block | apply c_block_n | apply c_block_ret | apply c_round_exit | apply c_round_ret | apply c_cut_exit | apply c_cut_ret | apply run_seqK | apply c_scope | apply c_scope_n | apply c_scope_ret | apply c_scope_exit | apply c_label | apply c_then_panic | apply c_cut_panic | apply c_block_panic | apply c_round_panic | apply c_scope_panic) | ((with_reducible apply c_draw); (refine (?_ : _ = true); kernel_rfl)) | ((with_reducible apply c_block_exit); (exact rfl)) | ((with_reducible apply c_block_out); (refine (?_ : _ = false); exact rfl)) | ((with_reducible apply c_cond_t); (exact rfl); (exact clo_)) | ((with_reducible apply c_cond_f); (exact rfl); (exact clo_)) | fail)); exact hq.get) | fail) : p := k ⟨hq⟩
theorem goto_ (r : Nat) {p q : Prop} (hq : q) (k : Left q → At r → p := by first | (intro hq hr; (repeat (first | ((fail_if_success (with_reducible first | apply c_stop hr | apply c_stop2 hr | apply c_stop3 hr)); (first | ((with_reducible apply run_y); (exact want_); (exact step_)) | ((with_reducible apply run_skip); (exact skip_); (exact put_)) | ((with_reducible apply run_drawK); (refine (?_ : _ = true); kernel_rfl)) | with_reducible (first | apply c_seq | apply c_then | apply c_then_exit | apply c_then_ret | apply c_skip | apply c_exit | apply c_ret | apply c_reg | apply c_block | apply c_block_n | apply c_block_ret | apply c_round_exit | apply c_round_ret | apply c_cut_exit | apply c_cut_ret | apply run_seqK | apply c_scope | apply c_scope_n | apply c_scope_ret | apply c_scope_exit | apply c_label | apply c_then_panic | apply c_cut_panic | apply c_block_panic | apply c_round_panic | apply c_scope_panic) | ((with_reducible apply c_draw); (refine (?_ : _ = true); kernel_rfl)) | ((with_reducible apply c_block_exit); (exact rfl)) | ((with_reducible apply c_block_out); (refine (?_ : _ = false); exact rfl)) | ((with_reducible apply c_cond_t); (exact rfl); (exact clo_)) | ((with_reducible apply c_cond_f); (exact rfl); (exact clo_)) | fail)) | fail)); exact hq.get) | fail) : p := k ⟨hq⟩ .mk
theorem sub_ {s : St} {l : List PV} {m : Nat} {h : List (Nat × HC)} (k : Sub s l m h := by (refine ⟨?_, ?_, rfl⟩ <;> conv => whnf); (all_goals (repeat (first | exact trivial | (refine And.intro (by ((conv => lhs; whnf) <;> first | with_reducible rfl | assumption | (refine val64 ?_ ?_ <;> omega) | rfl)) ?_; conv => whnf))))) : Sub s l m h := k
end Go.Proofs.YtddggjmfplohkaaDoor
