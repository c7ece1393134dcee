import Derived.Test.YtddggjmfplohkaaDoorPka
import Derived.Test.YtddggjmfplohkaaDoorPkb
/- The reader: programs, walked. -/
namespace Go.Proofs.YtddggjmfplohkaaDoor
open Go Go.RowKit
theorem s_pfun (l : List Tk) (e : Int) (hl : l.length ≤ 100000) (i : Nat) (hi : i ≤ l.length) : SpecRd 46 [] l i e (fuO (funE l i)) := by
  by_cases hk : ∀ i1 t j i3, mustE l [⟨#[102, 117, 110, 99]⟩] i = some i1 → takeE l i1 1 = some (t, j) → mustE l [⟨#[40]⟩] j = some i3 → kindE l i3 = 1
  · exact s_pka l e hl i hi hk
  · refine s_pkb l e hl i hi fun i1 t j i3 h1 h2 h3 hk2 => hk fun i1' t' j' i3' h1' h2' h3' => ?_
    rw [h1] at h1'
    cases h1'
    rw [h2] at h2'
    cases h2'
    rw [h3] at h3'
    cases h3'
    exact hk2
/-- Variables and arrays. -/
def decsE (l : List Tk) : Nat → Nat → Option ((List ByteArray × List Ar) × Nat)
  | 0, _ => none
  | f + 1, j =>
    if peekE l j = (⟨#[118, 97, 114]⟩ : ByteArray) then (match nmsE l (j + 1) with
      | none => none
      | some (r, k) => match mustE l [⟨#[59]⟩] k with
        | none => none
        | some n => match decsE l f n with
          | none => none
          | some ((v, a), q) => some ((r ++ v, a), q))
    else if peekE l j = (⟨#[97, 114, 114, 97, 121]⟩ : ByteArray) then (match takeE l (j + 1) 1 with
      | none => none
      | some (t, k) => match mustE l [⟨#[91]⟩] k with
        | none => none
        | some k2 => match takeE l k2 2 with
          | none => none
          | some (u, k3) => match mustE l [⟨#[93]⟩] k3 with
            | none => none
            | some k4 => match mustE l [⟨#[59]⟩] k4 with
              | none => none
              | some n => match decsE l f n with
                | none => none
                | some ((v, a), q) => some ((v, ⟨t.text, (u.num.toNat : Int)⟩ :: a), q))
    else some (([], []), j)
def funsE (l : List Tk) : Nat → Nat → Option (List Fu × Nat)
  | 0, _ => none
  | f + 1, j =>
    if j < l.length then (match funE l j with
      | none => none
      | some (x, k) => match funsE l f k with
        | none => none
        | some (r, n) => some (x :: r, n))
    else some ([], j)
def progE (l : List Tk) : Option (Pg × Nat) :=
  match decsE l (l.length + 1) 0 with
  | none => none
  | some ((v, a), j) => match funE l j with
    | none => none
    | some (x, k) => match funsE l (l.length + 1) k with
      | none => none
      | some (r, n) => some (⟨v, a, x :: r⟩, n)
def pgO : Option (Pg × Nat) → Option (PV × Nat)
  | some (x, j) => some (.agg (pgC x), j)
  | none => none
theorem locs_far {l : List Tk} : ∀ (f j : Nat) (r : List ByteArray) (n : Nat), j ≤ l.length → locsE l f j = some (r, n) → j ≤ n ∧ n ≤ l.length
  | 0, _, _, _, _, h => by simp [locsE] at h
  | f + 1, j, r, n, hj, h => by
    rw [locsE] at h
    split at h
    · cases h1 : nmsE l (j + 1) with
      | none => rw [h1] at h; cases h
      | some rk =>
        obtain ⟨r1, k⟩ := rk
        have q1 := nms_far h1
        rw [h1] at h
        simp only at h
        cases h2 : mustE l [⟨#[59]⟩] k with
        | none => rw [h2] at h; cases h
        | some m =>
          have q2 := must_far h2 (by simp; decide) q1.2.1
          rw [h2] at h
          simp only at h
          cases h3 : locsE l f m with
          | none => rw [h3] at h; cases h
          | some rn =>
            obtain ⟨r2, n2⟩ := rn
            rw [h3] at h
            cases h
            have := locs_far f m r2 n q2.2 h3
            omega
    · cases h
      exact ⟨Nat.le_refl _, hj⟩
theorem head_far {l : List Tk} {i j : Nat} {z : ByteArray × List ByteArray × Bool} (hi : i ≤ l.length) (h : headE l i = some (z, j)) : i < j ∧ j ≤ l.length := by
  unfold headE at h
  cases h1 : mustE l [⟨#[102, 117, 110, 99]⟩] i with
  | none => rw [h1] at h; cases h
  | some i1 =>
    have q1 := must_far h1 (by simp; decide) hi
    simp only [List.length_cons, List.length_nil] at q1
    rw [h1] at h
    simp only at h
    cases h2 : takeE l i1 1 with
    | none => rw [h2] at h; cases h
    | some tj =>
      obtain ⟨t, i2⟩ := tj
      obtain ⟨q2, rfl, -, -⟩ := take_some h2
      rw [h2] at h
      simp only at h
      cases h3 : mustE l [⟨#[40]⟩] (i1 + 1) with
      | none => rw [h3] at h; cases h
      | some i3 =>
        have q3 := must_far h3 (by simp; decide) (by omega)
        rw [h3] at h
        simp only at h
        cases h4 : (if kindE l i3 = 1 then nmsE l i3 else some ([], i3)) with
        | none => rw [h4] at h; cases h
        | some pi =>
          obtain ⟨ps, i4⟩ := pi
          have q4 : i3 ≤ i4 ∧ i4 ≤ l.length := by
            split at h4
            · have := nms_far h4
              omega
            · cases h4
              exact ⟨Nat.le_refl _, q3.2⟩
          rw [h4] at h
          simp only at h
          cases h5 : mustE l [⟨#[41]⟩] i4 with
          | none => rw [h5] at h; cases h
          | some i5 =>
            have q5 := must_far h5 (by simp; decide) q4.2
            rw [h5] at h
            simp only at h
            have q5' : i5 ≤ mayE l i5 (⟨#[119, 111, 114, 100]⟩ : ByteArray) ∧ mayE l i5 (⟨#[119, 111, 114, 100]⟩ : ByteArray) ≤ l.length := by
              unfold mayE
              split
              · rename_i hp
                have := peek_lt hp (by decide)
                omega
              · exact ⟨Nat.le_refl _, q5.2⟩
            cases h6 : mustE l [⟨#[123]⟩] (mayE l i5 (⟨#[119, 111, 114, 100]⟩ : ByteArray)) with
            | none => rw [h6] at h; cases h
            | some i6 =>
              have q6 := must_far h6 (by simp; decide) q5'.2
              rw [h6] at h
              cases h
              omega
theorem fun_far {l : List Tk} {i j : Nat} {x : Fu} (hi : i ≤ l.length) (h : funE l i = some (x, j)) : i < j ∧ j ≤ l.length := by
  unfold funE at h
  cases h1 : headE l i with
  | none => rw [h1] at h; cases h
  | some zj =>
    obtain ⟨⟨nm, ps, w⟩, k⟩ := zj
    have q1 := head_far hi h1
    rw [h1] at h
    simp only at h
    cases h2 : locsE l (l.length + 1) k with
    | none => rw [h2] at h; cases h
    | some lk =>
      obtain ⟨ls, k2⟩ := lk
      have q2 := locs_far _ _ _ _ q1.2 h2
      rw [h2] at h
      simp only at h
      cases h3 : stmtsE l (fuS l) k2 with
      | none => rw [h3] at h; cases h
      | some bn =>
        obtain ⟨b, n⟩ := bn
        have q3 := (farS l (fuS l)).ss k2 b n q2.2 h3
        rw [h3] at h
        cases h
        omega
def arsP (a : List Ar) : List (List PV) := a.map arC
def fusP (a : List Fu) : List (List PV) := a.map fuC
theorem arsP_app (l l' : List Ar) : arsP l ++ arsP l' = arsP (l ++ l') := by simp [arsP]
theorem fusP_app (l l' : List Fu) : fusP l ++ fusP l' = fusP (l ++ l') := by simp [fusP]
theorem appOk_of {zs sz by_ n : Nat} {es es' : List (List PV)} (hz : zs = n) (hs : sz = n) (hn : 0 < n) (hb : by_ ≤ 200) (hw : ∀ e ∈ es, e.length = n) (hw' : ∀ e ∈ es', e.length = n) (h : es.length + es'.length ≤ 100000000) : AppOk zs sz by_ es es' := by
  have g : ∀ (l : List (List PV)), (∀ e ∈ l, e.length = n) → ∀ i, i < l.length → (l.getD i []).length = n := fun l hl i hi => by
    rw [show l.getD i [] = l[i] by simp [List.getD, hi]]
    exact hl _ (List.getElem_mem hi)
  rw [hz, hs]
  refine ⟨rfl, hn, g es hw, g es' hw', by simp only [maxLen]; omega, ?_⟩
  have : (es.length + es'.length) * by_ ≤ (es.length + es'.length) * 200 := Nat.mul_le_mul_left _ hb
  omega
theorem arsP_w (a : List Ar) : ∀ e ∈ arsP a, e.length = 2 := fun e he => by
  obtain ⟨x, -, rfl⟩ := List.mem_map.1 he
  rfl
theorem fusP_w (a : List Fu) : ∀ e ∈ fusP a, e.length = 5 := fun e he => by
  obtain ⟨x, -, rfl⟩ := List.mem_map.1 he
  rfl
theorem arsP_len (a : List Ar) : (arsP a).length = a.length := List.length_map _
theorem fusP_len (a : List Fu) : (fusP a).length = a.length := List.length_map _
def pg0 : List PV := [.sl .full [], .sl .full [], .sl .full []]
/-- A piece of a code. -/
def cAt : Code → List Bool → Code
  | .seq x _, false :: p => cAt x p
  | .seq _ y, true :: p => cAt y p
  | .block _ x, _ :: p => cAt x p
  | .loop x, _ :: p => cAt x p
  | c, [] => c
  | c, _ :: _ => c
abbrev progI (l : List Tk) (e : Int) : Inv := fun k q m h => ∃ (v : List ByteArray) (a : List Ar) (f2 j2 : Nat), v.length ≤ j2 ∧ a.length ≤ j2 ∧ j2 ≤ l.length ∧ l.length < f2 + j2 ∧ (∀ r, decsE l f2 j2 = r → decsE l (l.length + 1) 0 = (match r with
      | none => none
      | some ((v', a'), q) => some ((v ++ v', a ++ a'), q))) ∧ k = f2 ∧
      ((v = [] ∧ a = [] ∧ q = [.ptr 1 0, .top, .ptr 2 0, .ptr 3 0] ++ List.replicate 61 .top ∧ m = 4 ∧ h = [(1, .cells (rdC l j2 e)), (2, .cells pg0), (3, .cells [.sl .full [], .sl .full [], .sl .full []])]) ∨ (a = [] ∧ q = [.ptr 1 0, .top, .ptr 2 0, .ptr 3 0] ++ List.replicate 61 .top ∧ m = 5 ∧ h = [(1, .cells (rdC l j2 e)), (2, .cells pg0), (3, .cells [.sl (.own 4) (ssP v), .sl .full [], .sl .full []]), (4, .row (ssP v).length 9)]) ∨ (v = [] ∧ q = [.ptr 1 0, .top, .ptr 2 0, .ptr 3 0] ++ List.replicate 61 .top ∧ m = 5 ∧ h = [(1, .cells (rdC l j2 e)), (2, .cells pg0), (3, .cells [.sl .full [], .sl (.own 4) (arsP a), .sl .full []]), (4, .row (arsP a).length 50)]) ∨ (q = [.ptr 1 0, .top, .ptr 2 0, .ptr 3 0] ++ List.replicate 61 .top ∧ m = 6 ∧ h = [(1, .cells (rdC l j2 e)), (2, .cells pg0), (3, .cells [.sl (.own 4) (ssP v), .sl (.own 5) (arsP a), .sl .full []]), (4, .row (ssP v).length 9), (5, .row (arsP a).length 50)]) ∨ (q = [.ptr 1 0, .top, .ptr 2 0, .ptr 3 0] ++ List.replicate 61 .top ∧ m = 6 ∧ h = [(1, .cells (rdC l j2 e)), (2, .cells pg0), (3, .cells [.sl (.own 5) (ssP v), .sl (.own 4) (arsP a), .sl .full []]), (4, .row (arsP a).length 50), (5, .row (ssP v).length 9)]))
end Go.Proofs.YtddggjmfplohkaaDoor
