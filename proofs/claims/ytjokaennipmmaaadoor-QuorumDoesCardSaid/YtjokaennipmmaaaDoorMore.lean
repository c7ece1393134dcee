/- More of drawn regions and of appends; no program is named here. -/
import Derived.Test.YtjokaennipmmaaaDoorB1
namespace Go.Proofs.YtjokaennipmmaaaDoor
open Go.RowKit
section
variable {P : Program} {ops : Array Oper} {Q : Exit → Act → World → Prop}
/-- One operation, walked as a list of one. -/
theorem wpOp_of_list {i : Nat} {o : Oper} {a : Act} {w : World} {K : Act → World → Prop} (hi : ops[i]? = some o)
    (h : ∀ Q' : Exit → Act → World → Prop, (∀ a w, K a w → Q' .normal a w) → wpList P ops Q' [o] a w) : wpOp P ops Q i K a w := by
  have h1 := h (fun e a w => match e with | .normal => K a w | e => Q e a w) (fun _ _ h => h)
  unfold wpOp
  simp only [hi]
  simp only [wpList] at h1
  split
  · rename_i hw
    rw [if_pos hw] at h1
    rcases h1 with h1 | h1
    · refine .inl ?_
      unfold Oper.wp at *
      generalize (execOp a.eval o).run P w = r at *
      cases r with
      | ok n w' =>
        cases n <;> simp only [Oper.upon] at h1 ⊢ <;>
          first
            | exact h1
            | exact Calls.mono h1 (fun e w'' he => by cases e <;> exact he)
            | exact Rows.mono h1 (fun _ _ he => he)
      | halt x w' => cases x <;> simp only [Oper.upon] at h1 ⊢ <;> exact h1
    · exact .inr h1
  · rename_i hw
    rw [if_neg hw] at h1
    exact h1
/-- The beginning: n operations in whatever order, then the rest; what holds at the beginning and of all that only grows. -/
theorem wp_region_anyR {id : Nat} {a : Act} {w : World} {l : List Oper} (n : Nat) (C R : World → Prop) (hm : P.follows .mixedOrders = true) (hn : n + (l.drop n).length = l.toArray.size) (hC : C w.drew) (hR : R w.drew)
    (h : anyC P .any l.toArray C Q (l.drop n).length n n (Array.replicate l.toArray.size false) R a) : (Code.region id l.toArray true).wp P Q a w := by
  refine wp_region_any hm ?_
  have := wpAny_of_anyC _ _ _ _ _ hC hR h
  rw [hn] at this
  exact this
/-- Are the first n operations all guarded away? -/
def skipsB (ops : Array Oper) : Nat → List Oper → Act → Bool
  | 0, _, _ => true
  | _ + 1, [], _ => true
  | n + 1, o :: l, a => !Region.wanted o (yielded ops a.tmps) && skipsB ops n l (a.put o.dst undef)
def putsU : Nat → List Oper → Act → Act
  | 0, _, a => a
  | _ + 1, [], a => a
  | n + 1, o :: l, a => putsU n l (a.put o.dst undef)
theorem quiet_skips {C : World → Prop} {Q : Act → Prop} : ∀ (n : Nat) (l : List Oper) (a : Act), skipsB ops n l a = true → wpQuiet P ops C Q (l.drop n) (putsU n l a) → wpQuiet P ops C Q l a
  | 0, _, _, _, h => by simpa [putsU] using h
  | _ + 1, [], _, _, h => by simpa [putsU] using h
  | n + 1, o :: l, a, hs, h => by
    simp only [skipsB, Bool.and_eq_true, Bool.not_eq_true'] at hs
    exact quiet_skip hs.1 (quiet_skips n l _ hs.2 (by simpa [putsU] using h))
theorem quiet_ex_skips {C : World → Prop} {o : Oper} {rest : List Oper} {Q : Act → Prop} {a : Act} (v : Value) (n : Nat) (hg : Region.wanted o (yielded ops a.tmps) = true) (hr : ∀ w, C w → (execOp a.eval o).run P w = .ok (.value v) w)
    (hs : skipsB ops n rest (a.put o.dst v) = true) (h : wpQuiet P ops C Q (rest.drop n) (putsU n rest (a.put o.dst v))) : wpQuiet P ops C Q (o :: rest) a :=
  quiet_val v hg hr (quiet_skips n rest _ hs h)
end
section
variable {P : Program}
/-- append of a block's elements onto a row of the call's own. -/
theorem wpList_append_blk {ops : Array Oper} {rest : List Oper} {o : Oper} {a : Act} {Q : Exit → Act → World → Prop} {w : World} (hgd : o.guard = none) (s x : Operand) (t : TypeId)
    (ho : o.op = .call { callee := .builtin .append, args := #[s, x], argTypes := #[t, t] })
    (base : Nat) (e : TypeId) (z : Value) (size bytes : Nat) (ht : P.underlying t = some (.slice e)) (hinfo : (P.info? e).map (fun i => (i.zero, i.size, i.bytes)) = some (some z, size, bytes))
    (hzs : z.cells.size = size) (hsz : 0 < size)
    (v : Value) (n : Nat) (xs : List Value) (hs : a.eval s = v) (hown : w.ownsRow base e size v n xs)
    (b m c : Nat) (news : List Value) (hx : a.eval x = .slice (some ⟨b, 0, none⟩) m c) (hB : Blk w b e news.toArray) (hl : news.length = m * size) (h1 : ∀ u ∈ news, u.oneCell' = true)
    (h63 : n + m ≤ maxLen) (hbytes : (n + m) * bytes ≤ 140737488355328) (hbase : base ≤ w.heap.size)
    (h : ∀ v' w', w'.ownsRow base e size v' (n + m) (xs ++ news) → Below base w w' → (∀ g, g < w.heap.size → v.ownBlock ≠ some g → w'.heap[g]? = w.heap[g]?) → wpList P ops Q rest (a.put o.dst v') w') : wpList P ops Q (o :: rest) a w := by
  obtain ⟨i, hi, hz0, hz1, hz2⟩ := info_parts hinfo
  refine wpList_append_own _ hgd s x t ho base e i z size bytes ht hi hz0 hz1 hz2 hzs hsz v n xs hs hown ⟨b, 0, none⟩ m c news hx hl ?_ h1 h63 hbytes hbase ?_
  · intro j y hy
    have hadd : (⟨b, 0, none⟩ : Addr).add j = ⟨b, j, none⟩ := by unfold Addr.add; split <;> simp_all
    rw [hadd, hB.cell j]
    simpa using hy
  · intro v' w' h2 h3 h4
    have hr := hown.lt
    refine h v' w' h2 ?_ (fun g hg hne => h3.block g hg (fun e => hne e.symm))
    exact (Below.refl base w).grown h3 hbase fun k hk => (hr k hk).1
end
end Go.Proofs.YtjokaennipmmaaaDoor
