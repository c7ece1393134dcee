import Derived.Test.YtddggjmfplohkaaDoorTy
/- A program is written. -/
namespace Go.Proofs.YtddggjmfplohkaaDoor
open Go.RowKit
set_option linter.unnecessarySimpa false
set_option maxHeartbeats 4000000 in
set_option maxRecDepth 100000 in
theorem s_nest4 (nm : ByteArray) (es : List Ex) (t f : List Sm) (s : ByteArray) (lv : Nat) (hn : SpecH (Ctx.mk Tryd.prog globT 7 LaidT) 66 [.ptr 1 0, .agg (smC (.mk 4 nm es t f)), .v (.int .i64 (lv : Int))] [tapeB s] (.tup []) [tapeB (s ++ prS lv (.mk 4 nm es t f))]) : SpecH (Ctx.mk Tryd.prog globT 7 LaidT) 38 [.ptr 1 0, .agg (smC (.mk 4 nm es t f)), .v (.int .i64 (lv : Int))] [tapeB s] (.tup []) [tapeB (s ++ prS lv (.mk 4 nm es t f))] := by
  refine spec_of_bodyH CX_mixed CX_gpk Tryd.func38 rfl 103 1 (fun c hc => by rw [List.mem_singleton.1 hc]; rfl) rfl rfl rfl rfl ?_
  refine go_ ?_
  with_reducible apply run_y
  exact want_
  · intro K hK
    refine ev_ ?_
    refine vcCall_bld (hn) (by kernel_rfl) (by decide) rfl ?_
    refine ev_ ?_
    exact hK
  refine go_ ?_
  refine ev_ ?_
  exact .mk rfl (And.intro (And.intro rfl (And.intro rfl (by rfl))) trivial)
set_option maxHeartbeats 4000000 in
set_option maxRecDepth 100000 in
theorem s_nest5 (nm : ByteArray) (es : List Ex) (t f : List Sm) (s : ByteArray) (lv : Nat) (hn : SpecH (Ctx.mk Tryd.prog globT 7 LaidT) 66 [.ptr 1 0, .agg (smC (.mk 5 nm es t f)), .v (.int .i64 (lv : Int))] [tapeB s] (.tup []) [tapeB (s ++ prS lv (.mk 5 nm es t f))]) : SpecH (Ctx.mk Tryd.prog globT 7 LaidT) 38 [.ptr 1 0, .agg (smC (.mk 5 nm es t f)), .v (.int .i64 (lv : Int))] [tapeB s] (.tup []) [tapeB (s ++ prS lv (.mk 5 nm es t f))] := by
  refine spec_of_bodyH CX_mixed CX_gpk Tryd.func38 rfl 103 1 (fun c hc => by rw [List.mem_singleton.1 hc]; rfl) rfl rfl rfl rfl ?_
  refine go_ ?_
  with_reducible apply run_y
  exact want_
  · intro K hK
    refine ev_ ?_
    refine vcCall_bld (hn) (by kernel_rfl) (by decide) rfl ?_
    refine ev_ ?_
    exact hK
  refine go_ ?_
  refine ev_ ?_
  exact .mk rfl (And.intro (And.intro rfl (And.intro rfl (by rfl))) trivial)
theorem putsS_ok : ∀ (d : Nat) (x : Sm), okS d x → PutsS d x
  | 0, _, h => h.elim
  | d + 1, .mk k nm es t f, h => by
    obtain ⟨h1, h2, h3, h4, h5, h6, h7, h8, h9, h10⟩ := h
    intro s lv hlv hs
    have hkk : k = 1 ∨ k = 2 ∨ k = 3 ∨ k = 4 ∨ k = 5 ∨ k = 6 ∨ k = 7 := by omega
    rcases hkk with rfl | rfl | rfl | rfl | rfl | rfl | rfl
    · exact s_set d nm es h1 h8 t f s lv hlv hs
    · match es, h2 rfl with
      | [a, b], _ => exact s_store d nm a b h8 t f s lv hlv hs
    · exact s_put d nm es h1 h8 t f s lv hlv hs
    · cases f with
      | nil => exact s_nest4 nm es t [] s lv (s_if0 d nm es h1 h8 t h4 (fun x hx => putsS_ok d x (h9 x hx)) s lv hlv hs)
      | cons g f => exact s_nest4 nm es t (g :: f) s lv (s_ifelse d nm es h1 h8 t h4 (fun x hx => putsS_ok d x (h9 x hx)) g f h5 (fun x hx => putsS_ok d x (h10 x hx)) s lv hlv hs)
    · obtain rfl := h6 (by decide)
      exact s_nest5 nm es t [] s lv (s_while0 d nm es h1 h8 t h4 (fun x hx => putsS_ok d x (h9 x hx)) s lv hlv hs)
    · exact s_call d nm es h1 h8 t f s lv hlv hs
    · cases es with
      | nil => exact s_ret0 d nm t f s lv hlv hs
      | cons a r => exact s_ret1 d nm a r h1 h8 t f s lv hlv hs
theorem s_stmts_ok (d : Nat) (hd : d ≤ 900) (l : List Sm) (hl : l.length ≤ 1000000) (h : ∀ x ∈ l, okS d x) (s : ByteArray) (hs : (s ++ prSs 1 l).size ≤ 140737488355328) : SpecH (Ctx.mk Tryd.prog globT 7 LaidT) 16 [.ptr 1 0, .sl .any (smsC l), .v (.int .i64 1)] [tapeB s] (.tup []) [tapeB (s ++ prSs 1 l)] :=
  s_stmts d l hl (fun x hx => putsS_ok d x (h x hx)) s 1 (by omega) hs
theorem arC_at {l : List Ar} {j : Nat} (h : j < l.length) : (l.map arC)[j]? = some (arC l[j]) := by simp [h]
theorem fuC_at {l : List Fu} {j : Nat} (h : j < l.length) : (l.map fuC)[j]? = some (fuC l[j]) := by simp [h]
theorem s_line0 (s x : ByteArray) (h : s.size + x.size + (⟨#[10]⟩ : ByteArray).size ≤ 140737488355328) : SpecH (Ctx.mk Tryd.prog globT 7 LaidT) 13 [.ptr 1 0, .v (.int .i64 0), .v (.string x)] [tapeB s] (.tup []) [tapeB (s ++ (x ++ (⟨#[10]⟩ : ByteArray)))] := by
  have e : s ++ indE 0 ++ x ++ (⟨#[10]⟩ : ByteArray) = s ++ (x ++ (⟨#[10]⟩ : ByteArray)) := by rw [show indE 0 = ByteArray.empty from rfl, app_nil, ByteArray.append_assoc]
  have := s_line s x 0 (by omega) (by rw [e]; simp only [ByteArray.size_append]; omega)
  rw [e] at this
  exact this
theorem s_line1 (s x : ByteArray) (h : s.size + (indE 1).size + x.size + (⟨#[10]⟩ : ByteArray).size ≤ 140737488355328) : SpecH (Ctx.mk Tryd.prog globT 7 LaidT) 13 [.ptr 1 0, .v (.int .i64 1), .v (.string x)] [tapeB s] (.tup []) [tapeB (s ++ (indE 1 ++ x ++ (⟨#[10]⟩ : ByteArray)))] := by
  have e : s ++ indE 1 ++ x ++ (⟨#[10]⟩ : ByteArray) = s ++ (indE 1 ++ x ++ (⟨#[10]⟩ : ByteArray)) := by simp only [ByteArray.append_assoc]
  have := s_line s x 1 (by omega) (by simp only [ByteArray.size_append]; omega)
  rw [e] at this
  exact this
/-- What the printer asks of a program. -/
structure OkP (p : Pg) : Prop where
  vars : p.vars.length ≤ 1000000
  arrs : p.arrays.length ≤ 1000000
  funs : p.funcs.length ≤ 1000000
  arr : ∀ a ∈ p.arrays, 0 ≤ a.size ∧ a.size < 4294967296
  fn : ∀ f ∈ p.funcs, f.params.length ≤ 1000000 ∧ f.locals.length ≤ 1000000 ∧ f.body.length ≤ 1000000 ∧ ∃ d, d ≤ 900 ∧ ∀ x ∈ f.body, okS d x
  size : (prP p).size ≤ 100000000000000
  some : (prP p).size ≠ 0
def vrE (p : Pg) : ByteArray := if p.vars = [] then ByteArray.empty else ((⟨#[118, 97, 114, 32]⟩ : ByteArray) ++ joinE p.vars (⟨#[44, 32]⟩ : ByteArray) ++ (⟨#[59]⟩ : ByteArray)) ++ (⟨#[10]⟩ : ByteArray)
def hdE (f : Fu) : ByteArray := (⟨#[102, 117, 110, 99, 32]⟩ : ByteArray) ++ f.name ++ (⟨#[40]⟩ : ByteArray) ++ joinE f.params (⟨#[44, 32]⟩ : ByteArray) ++ (⟨#[41]⟩ : ByteArray)
def wdE (f : Fu) : ByteArray := hdE f ++ (if f.word = true then (⟨#[32, 119, 111, 114, 100]⟩ : ByteArray) else ByteArray.empty)
def lcE (f : Fu) : ByteArray := if f.locals = [] then ByteArray.empty else indE 1 ++ ((⟨#[118, 97, 114, 32]⟩ : ByteArray) ++ joinE f.locals (⟨#[44, 32]⟩ : ByteArray) ++ (⟨#[59]⟩ : ByteArray)) ++ (⟨#[10]⟩ : ByteArray)
theorem prF_eq (f : Fu) : prF f = ((wdE f ++ (⟨#[32, 123]⟩ : ByteArray)) ++ (⟨#[10]⟩ : ByteArray)) ++ lcE f ++ prSs 1 f.body ++ ((⟨#[125]⟩ : ByteArray) ++ (⟨#[10]⟩ : ByteArray)) := by
  unfold prF wdE hdE lcE
  simp only [ByteArray.append_assoc]
set_option maxHeartbeats 8000000 in
set_option maxRecDepth 100000 in
theorem s_print (p : Pg) (hp : OkP p) : Spec (Ctx.mk Tryd.prog globT 7 LaidT) 6 [.agg (pgC p)] [] (.v (.string (prP p))) [] := by
  have hsz := hp.size
  have hv1 := hp.vars
  have hpe : prP p = vrE p ++ prAs p.arrays ++ prFs p.funcs := rfl
  have hs1 : (vrE p).size + (prAs p.arrays).size + (prFs p.funcs).size ≤ 100000000000000 := by rw [hpe] at hsz; simpa only [ByteArray.size_append] using hsz
  refine spec_of_bodyL CX_mixed CX_gpk Tryd.func6 rfl 85 0 rfl rfl rfl rfl ?_
  refine goto_ 1 ?_
  with_reducible apply c_seq
  with_reducible apply c_reg
  with_reducible apply run_y
  exact want_
  · intro K hK
    conv => whnf
    refine Or.inr ⟨5, 2, (by refine (?_ : _ = _); kernel_rfl), rfl, fun b hb => ?_, ?_⟩
    · match b, hb with
      | 0, _ => rfl
      | 1, _ => rfl
    refine ev_ ?_
    exact hK
  refine goto_ 3 ?_
  refine c_seq_cut (fun q m h => q = [.top, .ptr 1 0, .top, .ptr 2 0, .mth 13 2 0] ++ List.replicate 80 .top ∧ m = 3 ∧ h = [(1, .cells (pgC p)), (2, tapeB (vrE p))]) ?_ ?_
  · by_cases hv : p.vars = []
    · have e : vrE p = ByteArray.empty := if_pos hv
      have g0 : decide (((ssP p.vars).length : Int) > 0) = false := decide_eq_false (by rw [hv]; simp [ssP])
      rw [e]
      refine go_ ?_
      refine c_cut ⟨_, _, _, ?_, ?_, rfl, rfl, rfl⟩
      · rfl
      · exact sub_
    · have e : vrE p = ((⟨#[118, 97, 114, 32]⟩ : ByteArray) ++ joinE p.vars (⟨#[44, 32]⟩ : ByteArray) ++ (⟨#[59]⟩ : ByteArray)) ++ (⟨#[10]⟩ : ByteArray) := if_neg hv
      have g0 : decide (((ssP p.vars).length : Int) > 0) = true := decide_eq_true (by
        have := List.length_pos_iff.2 hv
        rw [ssP_len]; omega)
      rw [e] at hs1
      simp only [ByteArray.size_append] at hs1
      have hz1 : (⟨#[118, 97, 114, 32]⟩ : ByteArray).size + (joinE p.vars (⟨#[44, 32]⟩ : ByteArray)).size ≤ 9223372036854775807 := by omega
      have hz2 : ((⟨#[118, 97, 114, 32]⟩ : ByteArray) ++ joinE p.vars (⟨#[44, 32]⟩ : ByteArray)).size + (⟨#[59]⟩ : ByteArray).size ≤ 9223372036854775807 := by rw [ByteArray.size_append]; omega
      rw [e]
      refine go_ ?_
      with_reducible apply run_y
      exact want_
      · intro K hK
        refine ev_ ?_
        refine vcCall_plain (s_join p.vars (⟨#[44, 32]⟩ : ByteArray) hv1 (by omega)) (by kernel_rfl) ?_
        refine ev_ ?_
        exact hK
      refine go_ ?_
      with_reducible apply run_y
      exact want_
      · intro K hK
        refine ev_ ?_
        refine vcCall_bld (s_line0 ByteArray.empty ((⟨#[118, 97, 114, 32]⟩ : ByteArray) ++ joinE p.vars (⟨#[44, 32]⟩ : ByteArray) ++ (⟨#[59]⟩ : ByteArray)) (by simp only [ByteArray.size_append, ByteArray.size_empty]; omega)) (by kernel_rfl) (by decide) rfl ?_
        refine ev_ ?_
        exact hK
      refine go_ ?_
      rw [nil_app]
      refine c_cut ⟨_, _, _, ?_, ?_, rfl, rfl, rfl⟩
      · rfl
      · exact sub_
  rintro q m h hlen ⟨rfl, rfl, rfl⟩
  clear hlen
  refine go_ ?_
  refine c_loop (fun k q m h => ∃ (j : Nat) (t : ByteArray), j ≤ p.arrays.length ∧ t ++ prAs (p.arrays.drop j) = vrE p ++ prAs p.arrays ∧ k = p.arrays.length - j ∧ q = [.top, .ptr 1 0, .top, .ptr 2 0, .mth 13 2 0] ++ List.replicate 18 .top ++ [.sl .any (p.arrays.map arC), .v (.int .i64 ((p.arrays.map arC).length : Int)), .v (.int .i64 (j : Int))] ++ List.replicate 59 .top ∧ m = 3 ∧ h = [(1, .cells (pgC p)), (2, tapeB t)])
    ⟨_, _, _, _, ?_, ?_, ⟨0, vrE p, Nat.zero_le _, rfl, rfl, rfl, rfl, rfl⟩⟩ ?_
  · rfl
  · skip
    exact sub_
  rintro k q m h hlen ⟨j, t, hj, ht, rfl, rfl, rfl, rfl⟩
  clear hlen
  refine go_ ?_
  first | refine run_b rfl rfl rfl (fun hb => ?_) (fun hb => ?_) | refine c_cond rfl (fun hb => ?_) (fun hb => ?_)
  · have hj' : j < p.arrays.length := by have := of_decide_eq_true hb; rw [List.length_map] at this; omega
    have hal := hp.arrs
    have hw2 : IntKind.i64.wrap ((j : Int) + 1) = ((j + 1 : Nat) : Int) := by rw [wrap64 (by omega) (by omega)]; omega
    rw [drop_at hj', prAs] at ht
    have hm : p.arrays[j] ∈ p.arrays := List.getElem_mem hj'
    have hat := arC_at hj'
    have hr := hp.arr _ hm
    have hsz2 : t.size + (prA p.arrays[j]).size ≤ 100000000000000 := by
      have := congrArg ByteArray.size ht
      simp only [ByteArray.size_append] at this
      omega
    generalize p.arrays[j] = a at *
    obtain ⟨nm, sz⟩ := a
    have hr1 : 0 ≤ sz := hr.1
    have hr2 : sz < 4294967296 := hr.2
    have hu : IntKind.u32.wrap sz = ((sz.toNat : Nat) : Int) := by rw [IntKind.wrap_u32]; omega
    have hpa : prA ⟨nm, sz⟩ = ((⟨#[97, 114, 114, 97, 121, 32]⟩ : ByteArray) ++ nm ++ (⟨#[91]⟩ : ByteArray) ++ decE sz.toNat ++ (⟨#[93, 59]⟩ : ByteArray)) ++ (⟨#[10]⟩ : ByteArray) := rfl
    rw [hpa] at hsz2 ht
    simp only [ByteArray.size_append] at hsz2
    have hz1 : (⟨#[97, 114, 114, 97, 121, 32]⟩ : ByteArray).size + nm.size ≤ 9223372036854775807 := by omega
    have hz2 : ((⟨#[97, 114, 114, 97, 121, 32]⟩ : ByteArray) ++ nm).size + (⟨#[91]⟩ : ByteArray).size ≤ 9223372036854775807 := by simp only [ByteArray.size_append]; omega
    have hz3 : ((⟨#[97, 114, 114, 97, 121, 32]⟩ : ByteArray) ++ nm ++ (⟨#[91]⟩ : ByteArray)).size + (decE sz.toNat).size ≤ 9223372036854775807 := by simp only [ByteArray.size_append]; omega
    have hz4 : ((⟨#[97, 114, 114, 97, 121, 32]⟩ : ByteArray) ++ nm ++ (⟨#[91]⟩ : ByteArray) ++ decE sz.toNat).size + (⟨#[93, 59]⟩ : ByteArray).size ≤ 9223372036854775807 := by simp only [ByteArray.size_append]; omega
    refine go_ ?_
    with_reducible apply run_y
    exact want_
    · intro K hK
      refine ev_ ?_
      refine ⟨j, _, rfl, hat, rfl, ?_⟩
      refine ev_ ?_
      exact hK
    refine go_ ?_
    rw [hu]
    with_reducible apply run_y
    exact want_
    · intro K hK
      refine ev_ ?_
      refine vcCall_plain (s_num sz.toNat (by omega)) (by kernel_rfl) ?_
      refine ev_ ?_
      exact hK
    refine go_ ?_
    with_reducible apply run_y
    exact want_
    · intro K hK
      refine ev_ ?_
      refine vcCall_bld (s_line0 t ((⟨#[97, 114, 114, 97, 121, 32]⟩ : ByteArray) ++ nm ++ (⟨#[91]⟩ : ByteArray) ++ decE sz.toNat ++ (⟨#[93, 59]⟩ : ByteArray)) (by simp only [ByteArray.size_append]; omega)) (by kernel_rfl) (by decide) rfl ?_
      refine ev_ ?_
      exact hK
    refine go_ ?_
    rw [hw2]
    refine go_ ?_
    refine c_round ⟨_, _, _, _, ?_, ?_, ?_, ⟨j + 1, t ++ (((⟨#[97, 114, 114, 97, 121, 32]⟩ : ByteArray) ++ nm ++ (⟨#[91]⟩ : ByteArray) ++ decE sz.toNat ++ (⟨#[93, 59]⟩ : ByteArray)) ++ (⟨#[10]⟩ : ByteArray)), by omega, ?_, rfl, rfl, rfl, rfl⟩⟩
    · omega
    · rfl
    · skip
      exact sub_
    · rw [← ht]
      simp only [ByteArray.append_assoc]
  have hj' : j = p.arrays.length := by have := of_decide_eq_false hb; rw [List.length_map] at this; omega
  have e0 : t = vrE p ++ prAs p.arrays := by
    rw [← ht, hj', List.drop_length, prAs, app_nil]
  subst e0
  clear ht hb hj hj'
  refine go_ ?_
  refine c_loop (fun k q m h => ∃ (j : Nat) (t : ByteArray), j ≤ p.funcs.length ∧ t ++ prFs (p.funcs.drop j) = prP p ∧ k = p.funcs.length - j ∧ q = [.top, .top, .top, .ptr 2 0, .mth 13 2 0] ++ List.replicate 38 .top ++ [.sl .any (p.funcs.map fuC), .v (.int .i64 ((p.funcs.map fuC).length : Int)), .v (.int .i64 (j : Int))] ++ List.replicate 39 .top ∧ m = 3 ∧ h = [(2, tapeB t)])
    ⟨_, _, _, _, ?_, ?_, ⟨0, vrE p ++ prAs p.arrays, Nat.zero_le _, rfl, rfl, rfl, rfl, rfl⟩⟩ ?_
  · rfl
  · skip
    exact sub_
  rintro k q m h hlen ⟨j, t, hj, ht, rfl, rfl, rfl, rfl⟩
  clear hlen
  refine go_ ?_
  first | refine run_b rfl rfl rfl (fun hb => ?_) (fun hb => ?_) | refine c_cond rfl (fun hb => ?_) (fun hb => ?_)
  · have hj' : j < p.funcs.length := by have := of_decide_eq_true hb; rw [List.length_map] at this; omega
    have hal := hp.funs
    have hw2 : IntKind.i64.wrap ((j : Int) + 1) = ((j + 1 : Nat) : Int) := by rw [wrap64 (by omega) (by omega)]; omega
    rw [drop_at hj', prFs] at ht
    have hm : p.funcs[j] ∈ p.funcs := List.getElem_mem hj'
    have hat := fuC_at hj'
    obtain ⟨hf1, hf2, hf3, d, hd, hf4⟩ := hp.fn _ hm
    generalize p.funcs[j] = f at *
    have hsz2 : t.size + (prF f).size ≤ 100000000000000 := by
      have := congrArg ByteArray.size ht
      simp only [ByteArray.size_append] at this
      omega
    rw [prF_eq] at hsz2 ht
    simp only [ByteArray.size_append] at hsz2
    have hwd : (wdE f).size = (hdE f).size + (if f.word = true then (⟨#[32, 119, 111, 114, 100]⟩ : ByteArray) else ByteArray.empty : ByteArray).size := by unfold wdE; rw [ByteArray.size_append]
    have hhd : (hdE f).size = (⟨#[102, 117, 110, 99, 32]⟩ : ByteArray).size + f.name.size + (⟨#[40]⟩ : ByteArray).size + (joinE f.params (⟨#[44, 32]⟩ : ByteArray)).size + (⟨#[41]⟩ : ByteArray).size := by unfold hdE; simp only [ByteArray.size_append]
    have hz1 : (⟨#[102, 117, 110, 99, 32]⟩ : ByteArray).size + f.name.size ≤ 9223372036854775807 := by omega
    have hz2 : ((⟨#[102, 117, 110, 99, 32]⟩ : ByteArray) ++ f.name).size + (⟨#[40]⟩ : ByteArray).size ≤ 9223372036854775807 := by simp only [ByteArray.size_append]; omega
    have hz3 : ((⟨#[102, 117, 110, 99, 32]⟩ : ByteArray) ++ f.name ++ (⟨#[40]⟩ : ByteArray)).size + (joinE f.params (⟨#[44, 32]⟩ : ByteArray)).size ≤ 9223372036854775807 := by simp only [ByteArray.size_append]; omega
    have hz4 : ((⟨#[102, 117, 110, 99, 32]⟩ : ByteArray) ++ f.name ++ (⟨#[40]⟩ : ByteArray) ++ joinE f.params (⟨#[44, 32]⟩ : ByteArray)).size + (⟨#[41]⟩ : ByteArray).size ≤ 9223372036854775807 := by simp only [ByteArray.size_append]; omega
    have hz5 : (hdE f).size + (⟨#[32, 119, 111, 114, 100]⟩ : ByteArray).size ≤ 9223372036854775807 := by
      have : (⟨#[32, 119, 111, 114, 100]⟩ : ByteArray).size = 5 := rfl
      omega
    have hz6 : (wdE f).size + (⟨#[32, 123]⟩ : ByteArray).size ≤ 9223372036854775807 := by omega
    refine go_ ?_
    with_reducible apply run_y
    exact want_
    · intro K hK
      refine ev_ ?_
      refine ⟨j, _, rfl, hat, rfl, ?_⟩
      refine ev_ ?_
      exact hK
    refine go_ ?_
    with_reducible apply run_y
    exact want_
    · intro K hK
      refine ev_ ?_
      refine vcCall_plain (s_join f.params (⟨#[44, 32]⟩ : ByteArray) hf1 (by omega)) (by kernel_rfl) ?_
      refine ev_ ?_
      exact hK
    refine goto_ 14 ?_
    refine c_seq_cut (fun q m h => q = [.top, .top, .top, .ptr 2 0, .mth 13 2 0, .top, .top, .top, .ptr 3 0, .v (.string (wdE f))] ++ List.replicate 33 .top ++ [.sl .any (p.funcs.map fuC), .v (.int .i64 ((p.funcs.map fuC).length : Int)), .v (.int .i64 (j : Int))] ++ List.replicate 39 .top ∧ m = 4 ∧ h = [(2, tapeB t), (3, .cells (fuC f))]) ?_ ?_
    · cases hw : f.word with
      | true =>
        have e : wdE f = hdE f ++ (⟨#[32, 119, 111, 114, 100]⟩ : ByteArray) := by unfold wdE; rw [if_pos hw]
        rw [e]
        have hz5' : ((⟨#[102, 117, 110, 99, 32]⟩ : ByteArray) ++ f.name ++ (⟨#[40]⟩ : ByteArray) ++ joinE f.params (⟨#[44, 32]⟩ : ByteArray) ++ (⟨#[41]⟩ : ByteArray)).size + (⟨#[32, 119, 111, 114, 100]⟩ : ByteArray).size ≤ 9223372036854775807 := hz5
        refine go_ ?_
        refine c_cut ⟨_, _, _, ?_, ?_, rfl, rfl, rfl⟩
        · rfl
        · exact sub_
      | false =>
        have e : wdE f = hdE f := by unfold wdE; rw [if_neg (by rw [hw]; decide), app_nil]
        rw [e]
        refine go_ ?_
        refine c_cut ⟨_, _, _, ?_, ?_, rfl, rfl, rfl⟩
        · rfl
        · exact sub_
    rintro q m h hlen ⟨rfl, rfl, rfl⟩
    clear hlen
    refine go_ ?_
    with_reducible apply run_y
    exact want_
    · intro K hK
      refine ev_ ?_
      refine vcCall_bld (s_line0 t (wdE f ++ (⟨#[32, 123]⟩ : ByteArray)) (by simp only [ByteArray.size_append]; omega)) (by kernel_rfl) (by decide) rfl ?_
      refine ev_ ?_
      exact hK
    refine goto_ 17 ?_
    refine c_seq_cut (fun q m h => q = [.top, .top, .top, .ptr 2 0, .mth 13 2 0, .top, .top, .top, .ptr 3 0] ++ List.replicate 34 .top ++ [.sl .any (p.funcs.map fuC), .v (.int .i64 ((p.funcs.map fuC).length : Int)), .v (.int .i64 (j : Int))] ++ List.replicate 39 .top ∧ m = 4 ∧ h = [(2, tapeB ((t ++ ((wdE f ++ (⟨#[32, 123]⟩ : ByteArray)) ++ (⟨#[10]⟩ : ByteArray))) ++ lcE f)), (3, .cells (fuC f))]) ?_ ?_
    · by_cases hlc : f.locals = []
      · have e : lcE f = ByteArray.empty := if_pos hlc
        have g0 : decide (((ssP f.locals).length : Int) > 0) = false := decide_eq_false (by rw [hlc]; simp [ssP])
        rw [e, app_nil]
        refine go_ ?_
        refine c_cut ⟨_, _, _, ?_, ?_, rfl, rfl, rfl⟩
        · rfl
        · exact sub_
      · have e : lcE f = indE 1 ++ ((⟨#[118, 97, 114, 32]⟩ : ByteArray) ++ joinE f.locals (⟨#[44, 32]⟩ : ByteArray) ++ (⟨#[59]⟩ : ByteArray)) ++ (⟨#[10]⟩ : ByteArray) := if_neg hlc
        have g0 : decide (((ssP f.locals).length : Int) > 0) = true := decide_eq_true (by
          have := List.length_pos_iff.2 hlc
          rw [ssP_len]; omega)
        rw [e] at hsz2
        simp only [ByteArray.size_append] at hsz2
        have hy1 : (⟨#[118, 97, 114, 32]⟩ : ByteArray).size + (joinE f.locals (⟨#[44, 32]⟩ : ByteArray)).size ≤ 9223372036854775807 := by omega
        have hy2 : ((⟨#[118, 97, 114, 32]⟩ : ByteArray) ++ joinE f.locals (⟨#[44, 32]⟩ : ByteArray)).size + (⟨#[59]⟩ : ByteArray).size ≤ 9223372036854775807 := by rw [ByteArray.size_append]; omega
        rw [e]
        refine go_ ?_
        with_reducible apply run_y
        exact want_
        · intro K hK
          refine ev_ ?_
          refine vcCall_plain (s_join f.locals (⟨#[44, 32]⟩ : ByteArray) hf2 (by omega)) (by kernel_rfl) ?_
          refine ev_ ?_
          exact hK
        refine go_ ?_
        with_reducible apply run_y
        exact want_
        · intro K hK
          refine ev_ ?_
          refine vcCall_bld (s_line1 (t ++ ((wdE f ++ (⟨#[32, 123]⟩ : ByteArray)) ++ (⟨#[10]⟩ : ByteArray))) ((⟨#[118, 97, 114, 32]⟩ : ByteArray) ++ joinE f.locals (⟨#[44, 32]⟩ : ByteArray) ++ (⟨#[59]⟩ : ByteArray)) (by simp only [ByteArray.size_append]; omega)) (by kernel_rfl) (by decide) rfl ?_
          refine ev_ ?_
          exact hK
        refine go_ ?_
        refine c_cut ⟨_, _, _, ?_, ?_, rfl, rfl, rfl⟩
        · rfl
        · exact sub_
    rintro q m h hlen ⟨rfl, rfl, rfl⟩
    clear hlen
    refine go_ ?_
    with_reducible apply run_y
    exact want_
    · intro K hK
      refine ev_ ?_
      refine vcCall_bld (s_stmts_ok d hd f.body hf3 hf4 ((t ++ ((wdE f ++ (⟨#[32, 123]⟩ : ByteArray)) ++ (⟨#[10]⟩ : ByteArray))) ++ lcE f) (by simp only [ByteArray.size_append]; omega)) (by kernel_rfl) (by decide) rfl ?_
      refine ev_ ?_
      exact hK
    refine go_ ?_
    with_reducible apply run_y
    exact want_
    · intro K hK
      refine ev_ ?_
      refine vcCall_bld (s_line0 (((t ++ ((wdE f ++ (⟨#[32, 123]⟩ : ByteArray)) ++ (⟨#[10]⟩ : ByteArray))) ++ lcE f) ++ prSs 1 f.body) (⟨#[125]⟩ : ByteArray) (by simp only [ByteArray.size_append]; omega)) (by kernel_rfl) (by decide) rfl ?_
      refine ev_ ?_
      exact hK
    refine go_ ?_
    rw [hw2]
    refine go_ ?_
    refine c_round ⟨_, _, _, _, ?_, ?_, ?_, ⟨j + 1, (((t ++ ((wdE f ++ (⟨#[32, 123]⟩ : ByteArray)) ++ (⟨#[10]⟩ : ByteArray))) ++ lcE f) ++ prSs 1 f.body) ++ ((⟨#[125]⟩ : ByteArray) ++ (⟨#[10]⟩ : ByteArray)), by omega, ?_, rfl, rfl, rfl, rfl⟩⟩
    · omega
    · rfl
    · skip
      exact sub_
    · rw [← ht]
      simp only [ByteArray.append_assoc]
  have hj' : j = p.funcs.length := by have := of_decide_eq_false hb; rw [List.length_map] at this; omega
  have e0 : t = prP p := by
    rw [← ht, hj', List.drop_length, prFs, app_nil]
  subst e0
  clear ht hb hj hj'
  refine go_ ?_
  with_reducible apply run_y
  exact want_
  · intro K hK
    refine ev_ ?_
    refine vcCall_bld (s_text (prP p) hp.some) (by kernel_rfl) (by decide) rfl ?_
    refine ev_ ?_
    exact hK
  refine go_ ?_
  refine ev_ ?_
  exact .mk (by rfl) trivial
end Go.Proofs.YtddggjmfplohkaaDoor
