import Derived.Test.YtddggjmfplohkaaDoorRd
import Derived.Test.YtddggjmfplohkaaDoorKe
/- The reader: tokens of a text, a program of them; the panic is caught. -/
namespace Go.Proofs.YtddggjmfplohkaaDoor
open Go Go.RowKit
def pg1 : List PV := [.sl .any [], .sl .any [], .sl .any []]
/-- What the reader's last word is: a program and how far it came, or a panic. -/
def PrR (l : List Tk) (e : Int) (c : List PV) (o : Option (Pg × Nat)) : Bool → PV → List HC → Prop := fun b r outs =>
  match o with
  | some (x, n) => b = true ∧ r = .tup [] ∧ outs = [.cells (rdC l n e), .cells (pgC x)]
  | none => b = false ∧ ∃ a j, atIn l e a ∧ r = .v (wrongV a) ∧ outs = [.cells (rdC l j e), .cells c]
set_option maxHeartbeats 4000000 in
set_option maxRecDepth 100000 in
theorem s_prog1 (l : List Tk) (e : Int) (hl : l.length ≤ 100000) : SpecR (Ctx.mk Tryd.prog globU 7 LaidU) 21 [.ptr 1 0, .ptr 2 0] [.cells (rdC l 0 e), .cells pg1] (PrR l e pg1 (progE l)) := by
  refine spec_of_bodyR CX_mixed CU_gpk Tryd.func21 rfl 5 2 (fun c hc => by
    simp only [List.mem_cons, List.not_mem_nil, or_false] at hc
    rcases hc with rfl | rfl <;> rfl) rfl rfl ?_
  have hs := s_prog l e hl
  cases hp : progE l with
  | none =>
    rw [hp] at hs
    refine c_die 1 rfl rfl (fun h => by cases h) ?_
    simp only [List.take_succ_cons, List.take_zero]
    refine go_ ?_
    refine run_end ⟨fun h => (by cases h), ?_⟩
    conv => whnf
    refine And.intro (by kernel_rfl) (vcDie_rd hs (by kernel_rfl) (by decide) rfl fun a_ j_ ha_ => ?_)
    conv => whnf
    intro σ_ hσ_
    refine go_ ?_
    conv => whnf
    exact ⟨_, [.cells (rdC l j_ e), .cells pg1], rfl, And.intro (And.intro rfl rfl) (And.intro (And.intro rfl rfl) trivial), ⟨rfl, a_, j_, ha_, rfl, rfl⟩, rfl⟩
  | some xn =>
    obtain ⟨x, n⟩ := xn
    rw [hp] at hs
    refine go_ ?_
    with_reducible apply run_y
    exact want_
    · intro K hK
      refine ev_ ?_
      refine vcCall_rd (hs.got rfl) (by kernel_rfl) (by decide) rfl ?_
      refine ev_ ?_
      exact hK
    refine go_ ?_
    refine ev_ ?_
    exact ⟨_, [.cells (rdC l n e), .cells (pgC x)], .mk rfl (And.intro (And.intro rfl rfl) (And.intro (And.intro rfl rfl) trivial)), ⟨rfl, rfl, rfl⟩, rfl, rfl⟩
theorem vcCall_pr {np : Nat} {f : FuncId} {k k2 : Nat} {hp : Nat → HC} {K : Eff → Prop} {l : List Tk} {n : Nat} {e : Int} {x : Pg} (h : SpecR (Ctx.mk Tryd.prog globU 7 LaidU) f [.ptr 1 0, .ptr 2 0] [.cells (rdC l 0 e), .cells pg1] (PrR l e pg1 (some (x, n)))) (hk : k ≠ 0 ∧ k2 ≠ 0 ∧ k ≠ k2) (hc : hp k = .cells (rdC l 0 e)) (hc2 : hp k2 = .cells pg0)
    (hK : K ⟨.tup [], [(k, .cells (rdC l n e)), (k2, .cells (pgC x))], [k, k2]⟩) : vcCall (Ctx.mk Tryd.prog globU 7 LaidU) np f [.ptr k 0, .ptr k2 0] hp K := by
  obtain ⟨h0, h2, h3⟩ := hk
  have hh := SpecR.ret h fun b r outs hr => hr
  refine ⟨[], [k, k2], [.ptr 1 0, .ptr 2 0], [.cells (rdC l 0 e), .cells pg0], .tup [], [.cells (rdC l n e), .cells (pgC x)], rfl, by simp [h3], rfl, fun j hj => ?_, ?_, ?_, fun a h => ?_, hh, fun j hj => ?_, hK⟩
  · match j, hj with
    | 0, _ => exact ⟨h0, hc⟩
    | 1, _ => exact ⟨h2, hc2⟩
  · intro c hc'
    simp only [List.mem_cons, List.not_mem_nil, or_false] at hc'
    rcases hc' with rfl | rfl <;> rfl
  · intro c hc'
    simp only [List.mem_cons, List.not_mem_nil, or_false] at hc'
    rcases hc' with rfl | rfl <;> rfl
  · simp only [List.mem_cons, List.not_mem_nil, or_false] at h
    rcases h with rfl | rfl
    · exact .inr (.inl ⟨1, 0, rfl, by decide, by simp⟩)
    · exact .inr (.inl ⟨2, 0, rfl, by decide, by simp⟩)
  · match j, hj with
    | 0, hj => cases hj
    | 1, hj => cases hj
    | j + 2, hj => simp [HC.isBld] at hj
theorem vcDie_pr {f : FuncId} {k k2 : Nat} {hp : Nat → HC} {D : Value → List (Nat × HC) → Prop} {l : List Tk} {e : Int} (h : SpecR (Ctx.mk Tryd.prog globU 7 LaidU) f [.ptr 1 0, .ptr 2 0] [.cells (rdC l 0 e), .cells pg1] (PrR l e pg1 none)) (hk : k ≠ 0 ∧ k2 ≠ 0 ∧ k ≠ k2) (hc : hp k = .cells (rdC l 0 e)) (hc2 : hp k2 = .cells pg0)
    (hD : ∀ a j, atIn l e a → D (wrongV a) [(k, .cells (rdC l j e)), (k2, .cells pg1)]) : vcDie0 (Ctx.mk Tryd.prog globU 7 LaidU) f [.ptr k 0, .ptr k2 0] hp D := by
  obtain ⟨h0, h2, h3⟩ := hk
  refine ⟨[k, k2], [.ptr 1 0, .ptr 2 0], [.cells (rdC l 0 e), .cells pg0], PrR l e pg1 none, rfl, by simp [h3], rfl, fun j hj => ?_, ?_, fun a h => ?_, h, fun b r outs hR => ?_⟩
  · match j, hj with
    | 0, _ => exact ⟨h0, hc⟩
    | 1, _ => exact ⟨h2, hc2⟩
  · intro c hc'
    simp only [List.mem_cons, List.not_mem_nil, or_false] at hc'
    rcases hc' with rfl | rfl <;> rfl
  · simp only [List.mem_cons, List.not_mem_nil, or_false] at h
    rcases h with rfl | rfl
    · exact .inr (.inl ⟨1, 0, rfl, by decide, by simp⟩)
    · exact .inr (.inl ⟨2, 0, rfl, by decide, by simp⟩)
  · obtain ⟨rfl, a, j, h1, rfl, rfl⟩ := hR
    refine ⟨rfl, ⟨fun c hc' => ?_, fun j' hj => ?_⟩, _, rfl, hD a j h1⟩
    · simp only [List.mem_cons, List.not_mem_nil, or_false] at hc'
      rcases hc' with rfl | rfl <;> rfl
    · match j', hj with
      | 0, hj => cases hj
      | 1, hj => cases hj
      | j' + 2, hj => simp [HC.isBld] at hj
end Go.Proofs.YtddggjmfplohkaaDoor

/- The reader's frame, walked where it stands. -/
namespace Go.Proofs.YtddggjmfplohkaaDoor
open Go Go.RowKit
theorem lex_err {s : ByteArray} : ∀ (f at_ : Nat) {a x : Int}, at_ ≤ s.size → lexE s f at_ = .error (a, x) → x ≠ 0 ∧ 0 ≤ a ∧ a ≤ s.size
  | 0, _, _, _, _, h => by cases h
  | f + 1, at_, a, x, hat, h => by
    rw [lexE] at h
    split at h
    · rename_i hlt
      split at h
      · exact lex_err f _ (by omega) h
      · split at h
        · have hfl := fr_le notNl (s.extract at_ s.size)
          have hxs : (s.extract at_ s.size).size = s.size - at_ := by rw [ByteArray.size_extract]; omega
          exact lex_err f _ (by omega) h
        · split at h
          · rename_i he
            have hpos := first_pos (s := s.extract at_ s.size) (by rw [ByteArray.size_extract]; omega) he
            have hxs : (s.extract at_ s.size).size = s.size - at_ := by rw [ByteArray.size_extract]; omega
            cases hr : lexE s f (at_ + (firstE (s.extract at_ s.size)).1.text.size) with
            | ok r => rw [hr] at h; cases h
            | error y =>
              rw [hr] at h
              injection h with h
              subst h
              exact lex_err f _ (by omega) hr
          · rename_i he
            injection h with h
            injection h with h1 h2
            subst h1 h2
            exact ⟨he, by omega, by omega⟩
    · cases h
/-- What the reader's frame leaves: the place and the error; the program's box. -/
inductive RdOut (s : ByteArray) : PV → Nat → List (Nat × HC) → Prop
  | lex (a x : Int) (h : lexE s (s.size + 1) 0 = .error (a, x)) : RdOut s (.tup [.v (.int .i64 a), .v (.int .i64 x)]) 5 [(1, .cells pg0), (2, .cells pg0), (3, .cells [.v (.int .i64 a)]), (4, .cells [.v (.int .i64 x)])]
  | bad (l : List Tk) (a : Int) (h : lexE s (s.size + 1) 0 = .ok l) (hp : progE l = none) (ha : atIn l s.size a) : RdOut s (.tup [.v (.int .i64 a), .v (.int .i64 3)]) 7 [(1, .cells pg0), (2, .cells pg1), (3, .cells [.v (.int .i64 a)]), (4, .cells [.v (.int .i64 3)]), (6, .cells [.v (.int .i64 a)])]
  | rest (l : List Tk) (x : Pg) (n : Nat) (a : Int) (h : lexE s (s.size + 1) 0 = .ok l) (hp : progE l = some (x, n)) (hn : n < l.length) (ha : atIn l s.size a) : RdOut s (.tup [.v (.int .i64 a), .v (.int .i64 3)]) 7 [(1, .cells pg0), (2, .cells (pgC x)), (3, .cells [.v (.int .i64 a)]), (4, .cells [.v (.int .i64 3)]), (6, .cells [.v (.int .i64 a)])]
  | ok (l : List Tk) (x : Pg) (n : Nat) (h : lexE s (s.size + 1) 0 = .ok l) (hp : progE l = some (x, n)) (hn : ¬ n < l.length) : RdOut s (.tup [.v (.int .i64 0), .v (.int .i64 0)]) 6 [(1, .cells pg0), (2, .cells (pgC x)), (3, .cells [.v (.int .i64 0)]), (4, .cells [.v (.int .i64 0)]), (5, .cells (rdC l n s.size))]
theorem lex_len {s : ByteArray} : ∀ (f at_ : Nat) {r : List Tk}, at_ ≤ s.size → lexE s f at_ = .ok r → r.length ≤ s.size - at_
  | 0, _, _, _, h => by injection h with h; subst h; simp
  | f + 1, at_, r, hat, h => by
    rw [lexE] at h
    have hxs : (s.extract at_ s.size).size = s.size - at_ := by rw [ByteArray.size_extract]; omega
    split at h
    · rename_i hlt
      split at h
      · have := lex_len f _ (by omega) h; omega
      · split at h
        · have hfl := fr_le notNl (s.extract at_ s.size)
          have := lex_len f _ (by omega) h
          omega
        · split at h
          · rename_i he
            have hpos := first_pos (s := s.extract at_ s.size) (by omega) he
            cases hr : lexE s f (at_ + (firstE (s.extract at_ s.size)).1.text.size) with
            | ok r2 =>
              rw [hr] at h
              injection h with h
              subst h
              have := lex_len f _ (by omega) hr
              simp only [List.length_cons]
              omega
            | error y => rw [hr] at h; cases h
          · cases h
    · injection h with h; subst h; simp
theorem DefAt.to {C : Ctx} {fn : Func} {b : Code} {G : FuncId} {p q t bp bq n m0 : Nat} {R : PV → Nat → List (Nat × HC) → Prop} {np : Nat} {σ : List PV} {m : Nat} {h : List (Nat × HC)} (h1 : m0 ≤ m) (h2 : bp < m) (h3 : bq < m) (h4 : σ.getD p .top = .ptr bp 0) (h5 : σ.getD q .top = .ptr bq 0) (h6 : σ.set t .top = σ)
    (h7 : vcCL C n (m - 1) b (PanEnd C fn G bp bq n (m - 1) m R) σ m h) : DefAt C fn b G p q t bp bq n m0 R np .normal σ m h := by
  refine ⟨h1, h2, h3, h4, h5, ?_⟩
  have e : ∀ (l : List PV) (t : Nat) (K : List PV → Prop), K (l.set t .top) → setL l t .top K := fun l => by
    induction l with
    | nil => intro t K h; exact h
    | cons x l ih =>
      intro t K h
      cases t with
      | zero => exact h
      | succ t => exact ih t _ h
  refine e _ _ _ ?_
  rw [h6]
  exact h7
set_option maxHeartbeats 8000000 in
set_option maxRecDepth 100000 in
theorem s_read (s : ByteArray) (hsz : s.size ≤ 20000) : SpecI (Ctx.mk Tryd.prog globU 7 LaidU) 20 [.v (.string s), .clo 21 [.ptr 2 0]] 3 [(1, .cells pg0), (2, .cells pg0)] (RdOut s) := by
  refine specI_defer CX_mixed Tryd.func20 rfl 41 rfl (by decide) 3 4 (by decide) (by kernel_rfl) clos_idle ?_
  have hlex := s_lex s hsz
  cases hL : lexE s (s.size + 1) 0 with
  | error ax =>
    obtain ⟨a, x⟩ := ax
    have hx : (x != 0) = true := by simpa using (lex_err _ _ (Nat.zero_le _) hL).1
    rw [hL] at hlex
    refine go_ ?_
    with_reducible apply run_y
    exact want_
    · intro K hK
      refine ev_ ?_
      refine vcCall_plain (hlex) (by kernel_rfl) ?_
      refine ev_ ?_
      exact hK
    refine go_ ?_
    refine ev_ ?_
    exact RdOut.lex a x hL
  | ok l =>
    rw [hL] at hlex
    have hlen := lex_len _ _ (Nat.zero_le _) hL
    have hlex2 : Spec (Ctx.mk Tryd.prog globU 7 LaidU) 9 [.v (.string s)] [] (.tup [.sl .any (l.map tkC), .v (.int .i64 0), .v (.int .i64 0)]) [] := hlex
    have hpr := s_prog1 l s.size (by omega)
    clear hlex
    refine go_ ?_
    with_reducible apply run_y
    exact want_
    · intro K hK
      refine ev_ ?_
      refine vcCall_plain (hlex2) (by kernel_rfl) ?_
      refine ev_ ?_
      exact hK
    refine go_ ?_
    refine DefAt.to (by decide) (by decide) (by decide) rfl rfl (by kernel_rfl) ?_
    refine goto_ 6 ?_
    cases hp : progE l with
    | none =>
      rw [hp] at hpr
      refine c_seq ?_
      refine c_die 2 rfl rfl (fun h => by cases h) ?_
      simp only [List.take_succ_cons, List.take_zero]
      refine go_ ?_
      refine run_end ⟨fun h => (by cases h), ?_⟩
      conv => whnf
      refine And.intro (by kernel_rfl) (vcDie_pr hpr (by decide) rfl rfl fun a_ j_ ha_ => ?_)
      conv => whnf
      intro σ_ hσ_
      obtain rfl := hσ_.2 rfl
      clear hσ_
      refine c_then_panic ?_
      refine ⟨wrongV a_, [.top, .top, .top, .top, .ptr 3 0, .ptr 4 0] ++ List.replicate 35 .top, [(1, .cells pg0), (2, .cells pg1), (3, .cells [.v (.int .i64 0)]), (4, .cells [.v (.int .i64 0)])], rfl, rfl, ?_, rfl, by decide, (clos_pan a_ 0 0 pg0 pg1).mono ?_⟩
      · skip
        exact sub_
      · rintro m3 h3 ⟨rfl, rfl⟩
        refine ev_ ?_
        exact RdOut.bad l a_ hL hp ha_
    | some xn =>
      obtain ⟨x, n⟩ := xn
      rw [hp] at hpr
      refine go_ ?_
      with_reducible apply run_y
      exact want_
      · intro K hK
        refine ev_ ?_
        refine vcCall_pr hpr (by decide) rfl rfl ?_
        refine ev_ ?_
        exact hK
      refine go_ ?_
      first | refine run_b rfl rfl rfl (fun hb => ?_) (fun hb => ?_) | refine c_cond rfl (fun hb => ?_) (fun hb => ?_)
      · have hn : n < l.length := by
          have := of_decide_eq_true hb
          rw [tkC_len] at this
          omega
        refine c_die 1 rfl rfl (fun h => by cases h) ?_
        simp only [List.take_succ_cons, List.take_zero]
        refine go_ ?_
        refine run_end ⟨fun h => (by cases h), ?_⟩
        conv => whnf
        refine And.intro (by kernel_rfl) (vcDie_rd (s_fail l n s.size) (by kernel_rfl) (by decide) rfl fun a_ j_ ha_ => ?_)
        conv => whnf
        intro σ_ hσ_
        obtain rfl := hσ_.2 rfl
        clear hσ_
        refine c_then_panic ?_
        refine ⟨wrongV a_, [.top, .top, .top, .top, .ptr 3 0, .ptr 4 0] ++ List.replicate 35 .top, [(1, .cells pg0), (2, .cells (pgC x)), (3, .cells [.v (.int .i64 0)]), (4, .cells [.v (.int .i64 0)])], rfl, rfl, ?_, rfl, by decide, (clos_pan a_ 0 0 pg0 (pgC x)).mono ?_⟩
        · skip
          exact sub_
        · rintro m3 h3 ⟨rfl, rfl⟩
          refine ev_ ?_
          exact RdOut.rest l x n a_ hL hp hn ha_
      · have hn : ¬ n < l.length := fun h => by
          have := of_decide_eq_false hb
          rw [tkC_len] at this
          omega
        refine go_ ?_
        refine ⟨by decide, ?_⟩
        refine ev_ ?_
        exact RdOut.ok l x n hL hp hn
end Go.Proofs.YtddggjmfplohkaaDoor

/- The tokens of a text stand in it, in order. -/
namespace Go.Proofs.YtddggjmfplohkaaDoor
open Go Go.RowKit
theorem fd_ext {s g : ByteArray} : ∀ {l : List ByteArray}, fdE s l = some g → s.extract 0 g.size = g
  | [], h => by cases h
  | x :: l, h => by
    rw [fdE] at h
    split at h
    · rename_i hx
      cases h
      unfold hpE at hx
      simp only [Bool.and_eq_true, decide_eq_true_eq] at hx
      exact hx.2
    · exact fd_ext h
theorem fr_ext2 (P : UInt8 → Bool) (s : ByteArray) : s.extract 0 (s.extract 0 (frN P s)).size = s.extract 0 (frN P s) := by rw [fr_size]
/-- A token is what the text begins with. -/
theorem first_ext {s : ByteArray} (h : (firstE s).2 = 0) : s.extract 0 (firstE s).1.text.size = (firstE s).1.text := by
  unfold firstE at h ⊢
  split
  · rename_i hd
    rw [if_pos hd] at h
    unfold numberOfE at h ⊢
    split
    · exact fr_ext2 _ _
    · rename_i hn
      rw [hn] at h
      cases h
  · rename_i hd
    rw [if_neg hd] at h
    split
    · rename_i h39
      rw [if_pos h39] at h
      unfold byteOfE at h ⊢
      split
      · rename_i hc
        show s.extract 0 (s.extract 0 3).size = s.extract 0 3
        have : (s.extract 0 3).size = 3 := by rw [ByteArray.size_extract]; omega
        rw [this]
      · rename_i hc
        rw [if_neg hc] at h
        cases h
    · rename_i h39
      rw [if_neg h39] at h
      split
      · rename_i hlt
        rw [if_pos hlt] at h
        unfold nameOfE at h ⊢
        split
        · rename_i h20
          split
          · exact fr_ext2 _ _
          · exact fr_ext2 _ _
        · rename_i h20
          rw [if_neg h20] at h
          cases h
      · rename_i hlt
        rw [if_neg hlt] at h
        split
        · rename_i g hg
          exact fd_ext hg
        · rename_i hg
          rw [hg] at h
          cases h
/-- Tokens that stand in a text, from a place on, one behind the other. -/
def TokIn (s : ByteArray) : Nat → List Tk → Prop
  | _, [] => True
  | a, t :: r => ∃ b : Nat, t.at_ = (b : Int) ∧ a ≤ b ∧ b + t.text.size ≤ s.size ∧ s.extract b (b + t.text.size) = t.text ∧ TokIn s (b + t.text.size) r
theorem TokIn.le {s : ByteArray} {a b : Nat} {l : List Tk} (h : TokIn s b l) (hab : a ≤ b) : TokIn s a l := by
  cases l with
  | nil => trivial
  | cons t r =>
    obtain ⟨c, h1, h2, h3⟩ := h
    exact ⟨c, h1, by omega, h3⟩
theorem lex_in {s : ByteArray} : ∀ (f at_ : Nat) {r : List Tk}, at_ ≤ s.size → lexE s f at_ = .ok r → TokIn s at_ r
  | 0, _, _, _, h => by injection h with h; subst h; trivial
  | f + 1, at_, r, hat, h => by
    rw [lexE] at h
    have hxs : (s.extract at_ s.size).size = s.size - at_ := by rw [ByteArray.size_extract]; omega
    split at h
    · rename_i hlt
      split at h
      · exact (lex_in f _ (by omega) h).le (by omega)
      · split at h
        · have hfl := fr_le notNl (s.extract at_ s.size)
          exact (lex_in f _ (by omega) h).le (by omega)
        · split at h
          · rename_i he
            have hpos := first_pos (s := s.extract at_ s.size) (by omega) he
            have hex := first_ext he
            cases hr : lexE s f (at_ + (firstE (s.extract at_ s.size)).1.text.size) with
            | ok r2 =>
              rw [hr] at h
              injection h with h
              subst h
              have hle : at_ + (firstE (s.extract at_ s.size)).1.text.size ≤ s.size := by omega
              refine ⟨at_, rfl, Nat.le_refl _, hle, (?_ : s.extract at_ (at_ + (firstE (s.extract at_ s.size)).1.text.size) = (firstE (s.extract at_ s.size)).1.text), lex_in f _ (by omega) hr⟩
              rw [ByteArray.extract_extract, Nat.min_eq_left hle] at hex
              exact hex
            | error y => rw [hr] at h; cases h
          · cases h
    · injection h with h; subst h; trivial
theorem tok_at {s : ByteArray} : ∀ {l : List Tk} {a : Nat}, TokIn s a l → ∀ t ∈ l, 0 ≤ t.at_ ∧ t.at_ ≤ s.size
  | x :: l, a, h, t, ht => by
    obtain ⟨b, h1, h2, h3, -, h4⟩ := h
    rcases List.mem_cons.1 ht with rfl | ht
    · omega
    · exact tok_at h4 t ht
theorem at_in {s : ByteArray} {l : List Tk} {a : Int} (h : lexE s (s.size + 1) 0 = .ok l) (ha : atIn l s.size a) : 0 ≤ a ∧ a ≤ s.size := by
  rcases ha with rfl | ⟨t, ht, rfl⟩
  · omega
  · exact tok_at (lex_in _ _ (Nat.zero_le _) h) t ht
end Go.Proofs.YtddggjmfplohkaaDoor
