import Derived.Test.YtddggjmfplohkaaDoorKd
/- The lexer, walked. -/
namespace Go.Proofs.YtddggjmfplohkaaDoor
open Go Go.RowKit
/-- All tokens from a place on; or where it is wrong, and how. -/
noncomputable def lexE (s : ByteArray) : Nat → Nat → Except (Int × Int) (List Tk)
  | 0, _ => .ok []
  | f + 1, at_ =>
    if at_ < s.size then
      (if (s.data.getD at_ 0).toNat = 32 ∨ (s.data.getD at_ 0).toNat = 9 ∨ (s.data.getD at_ 0).toNat = 10 then lexE s f (at_ + 1)
      else if hpE (s.extract at_ s.size) ⟨#[47, 47]⟩ = true then lexE s f (at_ + frN notNl (s.extract at_ s.size))
      else if (firstE (s.extract at_ s.size)).2 = 0 then (match lexE s f (at_ + (firstE (s.extract at_ s.size)).1.text.size) with
        | .ok r => .ok ({ (firstE (s.extract at_ s.size)).1 with at_ := (at_ : Int) } :: r)
        | .error x => .error x)
      else .error ((at_ : Int), (firstE (s.extract at_ s.size)).2))
    else .ok []
def lexR (acc : List Tk) : Except (Int × Int) (List Tk) → PV
  | .ok r => .tup [.sl .any ((acc ++ r).map tkC), .v (.int .i64 0), .v (.int .i64 0)]
  | .error (a, x) => .tup [.sl .any [], .v (.int .i64 a), .v (.int .i64 x)]
theorem fr_size (P : UInt8 → Bool) (s : ByteArray) : (s.extract 0 (frN P s)).size = frN P s := by
  have := congrArg List.length (fr_toList P s)
  rw [Array.length_toList] at this
  exact this
theorem fr_le (P : UInt8 → Bool) (s : ByteArray) : frN P s ≤ s.size := by
  have h2 := (List.takeWhile_sublist (p := P) (l := s.data.toList)).length_le
  rw [Array.length_toList] at h2
  exact h2
theorem fr_pos {P : UInt8 → Bool} {s : ByteArray} (h0 : 0 < s.size) (h : P (s.data.getD 0 0) = true) : 0 < frN P s := by
  have hl : 0 < s.data.toList.length := by rw [Array.length_toList]; exact h0
  unfold frN
  rw [← ba_get hl] at h
  cases hs : s.data.toList with
  | nil => rw [hs] at hl; cases hl
  | cons x l =>
    simp only [hs, List.getElem_cons_zero] at h
    rw [List.takeWhile_cons, h]
    simp
theorem fd_pos {s g : ByteArray} : ∀ {l : List ByteArray}, fdE s l = some g → (∀ x ∈ l, 0 < x.size) → 0 < g.size ∧ g.size ≤ s.size
  | [], h, _ => by cases h
  | x :: l, h, hl => by
    rw [fdE] at h
    split at h
    · rename_i hx
      cases h
      unfold hpE at hx
      simp only [Bool.and_eq_true, decide_eq_true_eq] at hx
      exact ⟨hl _ (by simp), hx.1⟩
    · exact fd_pos h fun y hy => hl y (by simp [hy])
/-- A token has some bytes, and no more than there are. -/
theorem first_pos {s : ByteArray} (h0 : 0 < s.size) (h : (firstE s).2 = 0) : 0 < (firstE s).1.text.size ∧ (firstE s).1.text.size ≤ s.size := by
  unfold firstE at h ⊢
  split
  · rename_i hd
    rw [if_pos hd] at h
    unfold numberOfE at h ⊢
    split
    · show 0 < (s.extract 0 (frN digitE s)).size ∧ (s.extract 0 (frN digitE s)).size ≤ s.size
      rw [fr_size]
      exact ⟨fr_pos h0 hd, fr_le _ _⟩
    · rename_i hn
      rw [hn] at h
      cases h
  · rename_i hd
    rw [if_neg hd] at h
    split
    · rename_i h39
      rw [if_pos h39] at h
      unfold byteOfE at h ⊢
      split
      · rename_i hc
        show 0 < (s.extract 0 3).size ∧ (s.extract 0 3).size ≤ s.size
        rw [ByteArray.size_extract]
        omega
      · rename_i hc
        rw [if_neg hc] at h
        cases h
    · rename_i h39
      rw [if_neg h39] at h
      split
      · rename_i hlt
        rw [if_pos hlt] at h
        have hin : inE (s.data.getD 0 0) = true := by unfold inE; rw [hlt]; rfl
        have hq : 0 < (s.extract 0 (frN inE s)).size ∧ (s.extract 0 (frN inE s)).size ≤ s.size := by
          rw [fr_size]
          exact ⟨fr_pos h0 hin, fr_le _ _⟩
        unfold nameOfE at h ⊢
        split
        · rename_i h20
          split
          · exact hq
          · exact hq
        · rename_i h20
          rw [if_neg h20] at h
          cases h
      · rename_i hlt
        rw [if_neg hlt] at h
        split
        · rename_i g hg
          exact fd_pos hg (by decide)
        · rename_i hg
          rw [hg] at h
          cases h
theorem tkm_app (l l' : List Tk) : l.map tkC ++ l'.map tkC = (l ++ l').map tkC := by simp
theorem tkm_w (l : List Tk) : ∀ e ∈ l.map tkC, e.length = 4 := fun e he => by
  obtain ⟨x, -, rfl⟩ := List.mem_map.1 he
  rfl
theorem appOk_tk {zs sz by_ : Nat} {l l' : List Tk} (hz : zs = 4) (hs : sz = 4) (hb : by_ ≤ 200) (h : l.length + l'.length ≤ 100000000) : AppOk zs sz by_ (l.map tkC) (l'.map tkC) := by
  subst hz hs
  have g : ∀ (l : List Tk), ∀ i, i < (l.map tkC).length → ((l.map tkC).getD i []).length = 4 := fun l i hi => by
    rw [List.getD_eq_getElem?_getD, List.getElem?_eq_getElem hi]
    show ((l.map tkC)[i]).length = 4
    exact tkm_w l _ (List.getElem_mem hi)
  refine ⟨rfl, by omega, g l, g l', by simp only [List.length_map, maxLen]; omega, ?_⟩
  simp only [List.length_map]
  have : (l.length + l'.length) * by_ ≤ (l.length + l'.length) * 200 := Nat.mul_le_mul_left _ hb
  omega
set_option maxHeartbeats 16000000 in
set_option maxRecDepth 100000 in
theorem s_lex (s : ByteArray) (hsz : s.size ≤ 20000) : Spec (Ctx.mk Tryd.prog globU 7 LaidU) 9 [.v (.string s)] [] (lexR [] (lexE s (s.size + 1) 0)) [] := by
  refine spec_of_bodyL CX_mixed CU_gpk Tryd.func9 rfl 68 0 rfl rfl (by cases lexE s (s.size + 1) 0 <;> rfl) rfl ?_
  have g0 : decide (((s.size : Nat) : Int) > 20000) = false := decide_eq_false (by omega)
  refine go_ ?_
  refine c_loop (fun k q m h => ∃ (acc : List Tk) (f a : Nat), acc.length ≤ a ∧ a ≤ s.size ∧ s.size < f + a ∧ lexR acc (lexE s f a) = lexR [] (lexE s (s.size + 1) 0) ∧ k = f ∧
      ((q = [.v (.string s), .top, .top, .top, .top, .sl .full (acc.map tkC), .v (.int .i64 (a : Int))] ++ List.replicate 61 .top ∧ m = 1 ∧ h = []) ∨
       (q = [.v (.string s), .top, .top, .top, .top, .sl (.own 2) (acc.map tkC), .v (.int .i64 (a : Int))] ++ List.replicate 61 .top ∧ m = 3 ∧ h = [(2, .row (acc.map tkC).length 38)])))
    ⟨_, _, _, _, ?_, ?_, ⟨[], s.size + 1, 0, Nat.zero_le _, Nat.zero_le _, by omega, rfl, rfl, .inl ⟨rfl, rfl, rfl⟩⟩⟩ ?_
  · rfl
  · skip
    exact sub_
  rintro k q m h hlen ⟨acc, f, a, hac, ha, hf, hout, rfl, hq⟩
  clear hlen g0
  cases k with
  | zero => exfalso; omega
  | succ f =>
    rw [lexE] at hout
    by_cases hlt : a < s.size
    · have g1 : decide ((a : Int) < ((s.size : Nat) : Int)) = true := decide_eq_true (by omega)
      rw [if_pos hlt] at hout
      have hat := ba_at hlt
      have hxs : (s.extract a s.size).size = s.size - a := by rw [ByteArray.size_extract]; omega
      have hw1 : IntKind.i64.wrap ((a : Int) + 1) = ((a + 1 : Nat) : Int) := by rw [wrap64 (by omega) (by omega)]; omega
      generalize s.data.getD a 0 = b at *
      by_cases hb : b.toNat = 32 ∨ b.toNat = 9 ∨ b.toNat = 10
      · rw [if_pos hb] at hout
        have gg : ((b.toNat : Int) == 32) = true ∨ (((b.toNat : Int) == 32) = false ∧ (bif ((b.toNat : Int) == 32) then true else ((b.toNat : Int) == 9)) = true) ∨ (((b.toNat : Int) == 32) = false ∧ (bif ((b.toNat : Int) == 32) then true else ((b.toNat : Int) == 9)) = false ∧ (bif (bif ((b.toNat : Int) == 32) then true else ((b.toNat : Int) == 9)) then true else ((b.toNat : Int) == 10)) = true) := by
          by_cases e1 : b.toNat = 32
          · exact .inl (by rw [e1]; rfl)
          · have n1 : ((b.toNat : Int) == 32) = false := by simp only [beq_eq_false_iff_ne, ne_eq]; omega
            by_cases e2 : b.toNat = 9
            · exact .inr (.inl ⟨n1, by rw [n1, e2]; rfl⟩)
            · have n2 : ((b.toNat : Int) == 9) = false := by simp only [beq_eq_false_iff_ne, ne_eq]; omega
              have e3 : b.toNat = 10 := by omega
              exact .inr (.inr ⟨n1, by rw [n1, n2]; rfl, by rw [n1, n2, e3]; rfl⟩)
        rcases hq with ⟨rfl, rfl, rfl⟩ | ⟨rfl, rfl, rfl⟩
        · rcases gg with c1 | ⟨c1, c2⟩ | ⟨c1, c2, c3⟩
          all_goals
            refine go_ ?_
            with_reducible apply run_y
            exact want_
            · intro K hK
              refine ev_ ?_
              refine ⟨a, _, rfl, hat, ?_⟩
              refine ev_ ?_
              exact hK
            refine go_ ?_
            rw [hw1]
            refine c_round ⟨_, _, _, _, ?_, ?_, ?_, ⟨acc, f, a + 1, by omega, by omega, by omega, hout, rfl, .inl ⟨rfl, rfl, rfl⟩⟩⟩
            · omega
            · rfl
            · skip
              exact sub_
        · rcases gg with c1 | ⟨c1, c2⟩ | ⟨c1, c2, c3⟩
          all_goals
            refine go_ ?_
            with_reducible apply run_y
            exact want_
            · intro K hK
              refine ev_ ?_
              refine ⟨a, _, rfl, hat, ?_⟩
              refine ev_ ?_
              exact hK
            refine go_ ?_
            rw [hw1]
            refine c_round ⟨_, _, _, _, ?_, ?_, ?_, ⟨acc, f, a + 1, by omega, by omega, by omega, hout, rfl, .inr ⟨rfl, rfl, rfl⟩⟩⟩
            · omega
            · rfl
            · skip
              exact sub_
      rw [if_neg hb] at hout
      have c1 : ((b.toNat : Int) == 32) = false := by simp only [beq_eq_false_iff_ne, ne_eq]; omega
      have c2 : (bif ((b.toNat : Int) == 32) then true else ((b.toNat : Int) == 9)) = false := by rw [c1]; show ((b.toNat : Int) == 9) = false; simp only [beq_eq_false_iff_ne, ne_eq]; omega
      have c3 : (bif (bif ((b.toNat : Int) == 32) then true else ((b.toNat : Int) == 9)) then true else ((b.toNat : Int) == 10)) = false := by rw [c2]; show ((b.toNat : Int) == 10) = false; simp only [beq_eq_false_iff_ne, ne_eq]; omega
      have hfront := s_frontC (s.extract a s.size) (by omega)
      have hfirst := s_first (s.extract a s.size) (by omega) (by omega)
      have hhp := s_HP (s.extract a s.size) (⟨#[47, 47]⟩ : ByteArray)
      have hfl := fr_le notNl (s.extract a s.size)
      have hfs := fr_size notNl (s.extract a s.size)
      have hpos := first_pos (s := s.extract a s.size) (by omega)
      have hcp : hpE (s.extract a s.size) ⟨#[47, 47]⟩ = true → 0 < frN notNl (s.extract a s.size) := fun h => by
        refine fr_pos (by omega) ?_
        unfold hpE at h
        simp only [Bool.and_eq_true, decide_eq_true_eq] at h
        have e1 := ext_toList (s.extract a s.size) 2
        have h2 : (s.extract a s.size).extract 0 2 = ⟨#[47, 47]⟩ := h.2
        rw [h2] at e1
        have hl : 0 < (s.extract a s.size).data.toList.length := by rw [Array.length_toList]; show 0 < (s.extract a s.size).size; omega
        rw [← ba_get hl]
        have h3 : (s.extract a s.size).data.toList[0]? = some 47 := by
          have h4 := congrArg (fun q : List UInt8 => q[0]?) e1
          simp only [List.getElem?_take] at h4
          simpa using h4.symm
        rw [List.getElem?_eq_getElem hl] at h3
        injection h3 with h3
        rw [h3]
        decide
      generalize hz : s.extract a s.size = z at *
      by_cases hcm : hpE z ⟨#[47, 47]⟩ = true
      · rw [if_pos hcm] at hout
        have hcp := hcp hcm
        have hw2 : IntKind.i64.wrap ((a : Int) + (((z.extract 0 (frN notNl z)).size : Nat) : Int)) = ((a + frN notNl z : Nat) : Int) := by rw [hfs, wrap64 (by omega) (by omega)]; omega
        rcases hq with ⟨rfl, rfl, rfl⟩ | ⟨rfl, rfl, rfl⟩
        · skip
          refine go_ ?_
          with_reducible apply run_y
          exact want_
          · intro K hK
            refine ev_ ?_
            refine ⟨a, _, rfl, hat, ?_⟩
            refine ev_ ?_
            exact hK
          refine go_ ?_
          with_reducible apply run_y
          exact want_
          · intro K hK
            refine ev_ ?_
            refine ⟨a, s.size, z, rfl, rfl, Nat.le_of_lt hlt, Nat.le_refl _, rfl, hz, ?_⟩
            refine ev_ ?_
            exact hK
          refine go_ ?_
          with_reducible apply run_y
          exact want_
          · intro K hK
            refine ev_ ?_
            refine vcCall_plain (hhp) (by kernel_rfl) ?_
            refine ev_ ?_
            exact hK
          refine go_ ?_
          with_reducible apply run_y
          exact want_
          · intro K hK
            refine ev_ ?_
            refine ⟨a, s.size, z, rfl, rfl, Nat.le_of_lt hlt, Nat.le_refl _, rfl, hz, ?_⟩
            refine ev_ ?_
            exact hK
          refine go_ ?_
          with_reducible apply run_y
          exact want_
          · intro K hK
            refine ev_ ?_
            refine vcCall_plain (hfront) (by kernel_rfl) ?_
            refine ev_ ?_
            exact hK
          refine go_ ?_
          rw [hw2]
          refine c_round ⟨_, _, _, _, ?_, ?_, ?_, ⟨acc, f, a + frN notNl z, by omega, by omega, by omega, hout, rfl, .inl ⟨rfl, rfl, rfl⟩⟩⟩
          · omega
          · rfl
          · skip
            exact sub_
        · skip
          refine go_ ?_
          with_reducible apply run_y
          exact want_
          · intro K hK
            refine ev_ ?_
            refine ⟨a, _, rfl, hat, ?_⟩
            refine ev_ ?_
            exact hK
          refine go_ ?_
          with_reducible apply run_y
          exact want_
          · intro K hK
            refine ev_ ?_
            refine ⟨a, s.size, z, rfl, rfl, Nat.le_of_lt hlt, Nat.le_refl _, rfl, hz, ?_⟩
            refine ev_ ?_
            exact hK
          refine go_ ?_
          with_reducible apply run_y
          exact want_
          · intro K hK
            refine ev_ ?_
            refine vcCall_plain (hhp) (by kernel_rfl) ?_
            refine ev_ ?_
            exact hK
          refine go_ ?_
          with_reducible apply run_y
          exact want_
          · intro K hK
            refine ev_ ?_
            refine ⟨a, s.size, z, rfl, rfl, Nat.le_of_lt hlt, Nat.le_refl _, rfl, hz, ?_⟩
            refine ev_ ?_
            exact hK
          refine go_ ?_
          with_reducible apply run_y
          exact want_
          · intro K hK
            refine ev_ ?_
            refine vcCall_plain (hfront) (by kernel_rfl) ?_
            refine ev_ ?_
            exact hK
          refine go_ ?_
          rw [hw2]
          refine c_round ⟨_, _, _, _, ?_, ?_, ?_, ⟨acc, f, a + frN notNl z, by omega, by omega, by omega, hout, rfl, .inr ⟨rfl, rfl, rfl⟩⟩⟩
          · omega
          · rfl
          · skip
            exact sub_
      · rw [if_neg hcm] at hout
        have hcm' : hpE z ⟨#[47, 47]⟩ = false := by simpa using hcm
        clear hcp hfront hfl hfs
        generalize firstE z = fz at *
        obtain ⟨⟨tk, tt, tn, ta⟩, er⟩ := fz
        simp only at hout hpos
        by_cases her : er = 0
        · have ge : (er != 0) = false := by simpa using her
          rw [if_pos her] at hout
          obtain ⟨hp1, hp2⟩ := hpos her
          have hw3 : IntKind.i64.wrap ((a : Int) + ((tt.size : Nat) : Int)) = ((a + tt.size : Nat) : Int) := by rw [wrap64 (by omega) (by omega)]; omega
          have hout2 : lexR (acc ++ [Tk.mk tk tt tn (a : Int)]) (lexE s f (a + tt.size)) = lexR [] (lexE s (s.size + 1) 0) := by
            rw [← hout]
            cases lexE s f (a + tt.size) with
            | ok r => simp [lexR]
            | error x => rfl
          clear hout
          rcases hq with ⟨rfl, rfl, rfl⟩ | ⟨rfl, rfl, rfl⟩
          · skip
            refine go_ ?_
            with_reducible apply run_y
            exact want_
            · intro K hK
              refine ev_ ?_
              refine ⟨a, _, rfl, hat, ?_⟩
              refine ev_ ?_
              exact hK
            refine go_ ?_
            with_reducible apply run_y
            exact want_
            · intro K hK
              refine ev_ ?_
              refine ⟨a, s.size, z, rfl, rfl, Nat.le_of_lt hlt, Nat.le_refl _, rfl, hz, ?_⟩
              refine ev_ ?_
              exact hK
            refine go_ ?_
            with_reducible apply run_y
            exact want_
            · intro K hK
              refine ev_ ?_
              refine vcCall_plain (hhp) (by kernel_rfl) ?_
              refine ev_ ?_
              exact hK
            refine go_ ?_
            with_reducible apply run_y
            exact want_
            · intro K hK
              refine ev_ ?_
              refine ⟨a, s.size, z, rfl, rfl, Nat.le_of_lt hlt, Nat.le_refl _, rfl, hz, ?_⟩
              refine ev_ ?_
              exact hK
            refine go_ ?_
            with_reducible apply run_y
            exact want_
            · intro K hK
              refine ev_ ?_
              refine vcCall_plain (hfirst) (by kernel_rfl) ?_
              refine ev_ ?_
              exact hK
            refine go_ ?_
            with_reducible apply run_y
            exact want_
            · intro K hK
              refine ev_ ?_
              refine ⟨(acc ++ [Tk.mk tk tt tn (a : Int)]).map tkC, tkm_app acc [Tk.mk tk tt tn (a : Int)], appOk_tk (l := acc) (l' := [Tk.mk tk tt tn (a : Int)]) rfl rfl (by decide) (by simp; omega), ?_⟩
              conv => whnf
              refine Or.inl ?_
              refine ev_ ?_
              exact hK
            refine go_ ?_
            rw [hw3]
            refine c_round ⟨_, _, _, _, ?_, ?_, ?_, ⟨acc ++ [Tk.mk tk tt tn (a : Int)], f, a + tt.size, by simp; omega, by omega, by omega, hout2, rfl, .inr ⟨rfl, rfl, rfl⟩⟩⟩
            · omega
            · rfl
            · skip
              exact sub_
          · skip
            refine go_ ?_
            with_reducible apply run_y
            exact want_
            · intro K hK
              refine ev_ ?_
              refine ⟨a, _, rfl, hat, ?_⟩
              refine ev_ ?_
              exact hK
            refine go_ ?_
            with_reducible apply run_y
            exact want_
            · intro K hK
              refine ev_ ?_
              refine ⟨a, s.size, z, rfl, rfl, Nat.le_of_lt hlt, Nat.le_refl _, rfl, hz, ?_⟩
              refine ev_ ?_
              exact hK
            refine go_ ?_
            with_reducible apply run_y
            exact want_
            · intro K hK
              refine ev_ ?_
              refine vcCall_plain (hhp) (by kernel_rfl) ?_
              refine ev_ ?_
              exact hK
            refine go_ ?_
            with_reducible apply run_y
            exact want_
            · intro K hK
              refine ev_ ?_
              refine ⟨a, s.size, z, rfl, rfl, Nat.le_of_lt hlt, Nat.le_refl _, rfl, hz, ?_⟩
              refine ev_ ?_
              exact hK
            refine go_ ?_
            with_reducible apply run_y
            exact want_
            · intro K hK
              refine ev_ ?_
              refine vcCall_plain (hfirst) (by kernel_rfl) ?_
              refine ev_ ?_
              exact hK
            refine go_ ?_
            with_reducible apply run_y
            exact want_
            · intro K hK
              refine ev_ ?_
              refine ⟨(acc ++ [Tk.mk tk tt tn (a : Int)]).map tkC, tkm_app acc [Tk.mk tk tt tn (a : Int)], appOk_tk (l := acc) (l' := [Tk.mk tk tt tn (a : Int)]) rfl rfl (by decide) (by simp; omega), ?_⟩
              refine ev_ ?_
              exact hK
            refine go_ ?_
            rw [hw3]
            refine c_round ⟨_, _, _, _, ?_, ?_, ?_, ⟨acc ++ [Tk.mk tk tt tn (a : Int)], f, a + tt.size, by simp; omega, by omega, by omega, hout2, rfl, .inr ⟨rfl, rfl, rfl⟩⟩⟩
            · omega
            · rfl
            · skip
              exact sub_
        · have ge : (er != 0) = true := by simpa using her
          rw [if_neg her] at hout
          rw [← hout]
          rcases hq with ⟨rfl, rfl, rfl⟩ | ⟨rfl, rfl, rfl⟩
          · skip
            refine go_ ?_
            with_reducible apply run_y
            exact want_
            · intro K hK
              refine ev_ ?_
              refine ⟨a, _, rfl, hat, ?_⟩
              refine ev_ ?_
              exact hK
            refine go_ ?_
            with_reducible apply run_y
            exact want_
            · intro K hK
              refine ev_ ?_
              refine ⟨a, s.size, z, rfl, rfl, Nat.le_of_lt hlt, Nat.le_refl _, rfl, hz, ?_⟩
              refine ev_ ?_
              exact hK
            refine go_ ?_
            with_reducible apply run_y
            exact want_
            · intro K hK
              refine ev_ ?_
              refine vcCall_plain (hhp) (by kernel_rfl) ?_
              refine ev_ ?_
              exact hK
            refine go_ ?_
            with_reducible apply run_y
            exact want_
            · intro K hK
              refine ev_ ?_
              refine ⟨a, s.size, z, rfl, rfl, Nat.le_of_lt hlt, Nat.le_refl _, rfl, hz, ?_⟩
              refine ev_ ?_
              exact hK
            refine go_ ?_
            with_reducible apply run_y
            exact want_
            · intro K hK
              refine ev_ ?_
              refine vcCall_plain (hfirst) (by kernel_rfl) ?_
              refine ev_ ?_
              exact hK
            refine go_ ?_
            refine ev_ ?_
            exact .mk (by rfl) trivial
          · skip
            refine go_ ?_
            with_reducible apply run_y
            exact want_
            · intro K hK
              refine ev_ ?_
              refine ⟨a, _, rfl, hat, ?_⟩
              refine ev_ ?_
              exact hK
            refine go_ ?_
            with_reducible apply run_y
            exact want_
            · intro K hK
              refine ev_ ?_
              refine ⟨a, s.size, z, rfl, rfl, Nat.le_of_lt hlt, Nat.le_refl _, rfl, hz, ?_⟩
              refine ev_ ?_
              exact hK
            refine go_ ?_
            with_reducible apply run_y
            exact want_
            · intro K hK
              refine ev_ ?_
              refine vcCall_plain (hhp) (by kernel_rfl) ?_
              refine ev_ ?_
              exact hK
            refine go_ ?_
            with_reducible apply run_y
            exact want_
            · intro K hK
              refine ev_ ?_
              refine ⟨a, s.size, z, rfl, rfl, Nat.le_of_lt hlt, Nat.le_refl _, rfl, hz, ?_⟩
              refine ev_ ?_
              exact hK
            refine go_ ?_
            with_reducible apply run_y
            exact want_
            · intro K hK
              refine ev_ ?_
              refine vcCall_plain (hfirst) (by kernel_rfl) ?_
              refine ev_ ?_
              exact hK
            refine go_ ?_
            refine ev_ ?_
            exact .mk (by rfl) trivial
    · have g1 : decide ((a : Int) < ((s.size : Nat) : Int)) = false := decide_eq_false (by omega)
      rw [if_neg hlt] at hout
      rw [← hout]
      rcases hq with ⟨rfl, rfl, rfl⟩ | ⟨rfl, rfl, rfl⟩
      · skip
        refine go_ ?_
        refine ev_ ?_
        exact .mk (by (simp [lexR]; rfl)) trivial
      · skip
        refine go_ ?_
        refine ev_ ?_
        exact .mk (by (simp [lexR]; rfl)) trivial
end Go.Proofs.YtddggjmfplohkaaDoor
