import Derived.Test.YtddggjmfplohkaaDoorPl
import Derived.Test.YtddggjmfplohkaaDoorTl
import Derived.Test.YtddggjmfplohkaaDoorQg
import Derived.Test.YtddggjmfplohkaaDoorRe
/- What is read is no greater than the tokens it was read of, in plain Lean. -/
namespace Go.Proofs.YtddggjmfplohkaaDoor
open Go Go.RowKit
theorem must_j {l : List Tk} : ∀ {ts : List ByteArray} {i j : Nat}, mustE l ts i = some j → j = i + ts.length
  | [], _, _, h => by cases h; rfl
  | s :: ts, i, j, h => by
    rw [mustE] at h
    split at h
    · have := must_j h
      simp only [List.length_cons]
      omega
    · cases h
theorem take_j {l : List Tk} {i : Nat} {k : Int} {t : Tk} {j : Nat} (h : takeE l i k = some (t, j)) : j = i + 1 := (take_some h).2.1
theorem cnE_mk (k o : Int) (n : UInt32) (s : ByteArray) (ks : List Ex) : cnE (.mk k o n s ks) = 1 + cnEs ks := rfl
theorem cnEs_nil : cnEs [] = 0 := rfl
theorem cnEs_cons (e : Ex) (l : List Ex) : cnEs (e :: l) = cnE e + cnEs l := rfl
theorem cnS_mk (k : Int) (s : ByteArray) (es : List Ex) (t f : List Sm) : cnS (.mk k s es t f) = 1 + cnEs es + cnSs t + cnSs f := rfl
theorem cnSs_nil : cnSs [] = 0 := rfl
theorem cnSs_cons (e : Sm) (l : List Sm) : cnSs (e :: l) = cnS e + cnSs l := rfl
structure CnF (l : List Tk) (f : Nat) : Prop where
  e : ∀ i least x j, exprE l f i least = some (x, j) → cnE x + i ≤ j
  lo : ∀ x i least y j, loopE l f x i least = some (y, j) → cnE y + i ≤ cnE x + j
  a : ∀ i x j, atomE l f i = some (x, j) → cnE x + i ≤ j
  g : ∀ i x j, argsE l f i = some (x, j) → cnEs x + i ≤ j
  t : ∀ i x j, argTE l f i = some (x, j) → cnEs x + i ≤ j
theorem cnF (l : List Tk) : ∀ f, CnF l f
  | 0 => ⟨fun _ _ _ _ h => by simp [exprE] at h, fun _ _ _ _ _ h => by simp [loopE] at h, fun _ _ _ h => by simp [atomE] at h, fun _ _ _ h => by simp [argsE] at h, fun _ _ _ h => by simp [argTE] at h⟩
  | f + 1 => by
    have ih := cnF l f
    refine ⟨fun i least x j h => ?_, fun x i least y j h => ?_, fun i x j h => ?_, fun i x j h => ?_, fun i x j h => ?_⟩
    · rw [exprE] at h
      cases ha : atomE l f i with
      | none => rw [ha] at h; cases h
      | some xj =>
        obtain ⟨y, k⟩ := xj
        rw [ha] at h
        have q1 := ih.a _ _ _ ha
        have q2 := ih.lo _ _ _ _ _ h
        omega
    · rw [loopE] at h
      split at h
      · cases h; omega
      · cases he : exprE l f (i + 1) ((signE (peekE l i)).2.2 + 1) with
        | none => rw [he] at h; cases h
        | some zk =>
          obtain ⟨z, k⟩ := zk
          rw [he] at h
          have q1 := ih.e _ _ _ _ he
          have q2 := ih.lo _ _ _ _ _ h
          rw [cnE_mk, cnEs_cons, cnEs_cons, cnEs_nil] at q2
          omega
    · rw [atomE] at h
      split at h
      · cases ht : takeE l i 2 with
        | none => rw [ht] at h; cases h
        | some tj =>
          obtain ⟨t, j'⟩ := tj
          rw [ht] at h
          have := take_j ht
          cases h
          rw [cnE_mk, cnEs_nil]
          omega
      · split at h
        · cases hm : mustE l [⟨#[40]⟩, ⟨#[41]⟩] (i + 1) with
          | none => rw [hm] at h; cases h
          | some j' =>
            rw [hm] at h
            have := must_j hm
            cases h
            rw [cnE_mk, cnEs_nil]
            omega
        · split at h
          · cases he : exprE l f (i + 1) 1 with
            | none => rw [he] at h; cases h
            | some zk =>
              obtain ⟨z, k⟩ := zk
              rw [he] at h
              simp only at h
              have q1 := ih.e _ _ _ _ he
              cases hm : mustE l [⟨#[41]⟩] k with
              | none => rw [hm] at h; cases h
              | some j' =>
                rw [hm] at h
                have := must_j hm
                cases h
                simp only [List.length_cons, List.length_nil] at this
                omega
          · split at h
            · cases ha : atomE l f (i + 1) with
              | none => rw [ha] at h; cases h
              | some zk =>
                obtain ⟨z, k⟩ := zk
                rw [ha] at h
                have q1 := ih.a _ _ _ ha
                cases h
                rw [cnE_mk, cnEs_cons, cnEs_nil]
                omega
            · cases ht : takeE l i 1 with
              | none => rw [ht] at h; cases h
              | some tj =>
                obtain ⟨t, j'⟩ := tj
                rw [ht] at h
                simp only at h
                have q0 := take_j ht
                split at h
                · cases he : exprE l f (j' + 1) 1 with
                  | none => rw [he] at h; cases h
                  | some zk =>
                    obtain ⟨z, k⟩ := zk
                    rw [he] at h
                    simp only at h
                    have q1 := ih.e _ _ _ _ he
                    cases hm : mustE l [⟨#[93]⟩] k with
                    | none => rw [hm] at h; cases h
                    | some n =>
                      rw [hm] at h
                      have := must_j hm
                      cases h
                      rw [cnE_mk, cnEs_cons, cnEs_nil]
                      simp only [List.length_cons, List.length_nil] at this
                      omega
                · split at h
                  · cases he : argsE l f (j' + 1) with
                    | none => rw [he] at h; cases h
                    | some zk =>
                      obtain ⟨z, k⟩ := zk
                      rw [he] at h
                      have q1 := ih.g _ _ _ he
                      cases h
                      rw [cnE_mk]
                      omega
                  · cases h
                    rw [cnE_mk, cnEs_nil]
                    omega
    · rw [argsE] at h
      split at h
      · cases h
        rw [cnEs_nil]
        omega
      · cases he : exprE l f i 1 with
        | none => rw [he] at h; cases h
        | some zk =>
          obtain ⟨z, k⟩ := zk
          rw [he] at h
          simp only at h
          have q1 := ih.e _ _ _ _ he
          cases ht : argTE l f k with
          | none => rw [ht] at h; cases h
          | some rk =>
            obtain ⟨r, k2⟩ := rk
            rw [ht] at h
            simp only at h
            have q2 := ih.t _ _ _ ht
            cases hm : mustE l [⟨#[41]⟩] k2 with
            | none => rw [hm] at h; cases h
            | some n =>
              rw [hm] at h
              have := must_j hm
              cases h
              rw [cnEs_cons]
              simp only [List.length_cons, List.length_nil] at this
              omega
    · rw [argTE] at h
      split at h
      · cases he : exprE l f (i + 1) 1 with
        | none => rw [he] at h; cases h
        | some zk =>
          obtain ⟨z, k⟩ := zk
          rw [he] at h
          simp only at h
          have q1 := ih.e _ _ _ _ he
          cases ht : argTE l f k with
          | none => rw [ht] at h; cases h
          | some rk =>
            obtain ⟨r, k2⟩ := rk
            rw [ht] at h
            have q2 := ih.t _ _ _ ht
            cases h
            rw [cnEs_cons]
            omega
      · cases h
        rw [cnEs_nil]
        omega
theorem round_cn {l : List Tk} {i j : Nat} {x : Ex} (h : roundE l i = some (x, j)) : cnE x + i + 2 ≤ j := by
  unfold roundE at h
  cases h1 : mustE l [⟨#[40]⟩] i with
  | none => rw [h1] at h; cases h
  | some j1 =>
    rw [h1] at h
    simp only at h
    have q1 := must_j h1
    cases h2 : exprE l (fuE l) j1 1 with
    | none => rw [h2] at h; cases h
    | some xk =>
      obtain ⟨y, k⟩ := xk
      rw [h2] at h
      simp only at h
      have q2 := (cnF l (fuE l)).e _ _ _ _ h2
      cases h3 : mustE l [⟨#[41]⟩] k with
      | none => rw [h3] at h; cases h
      | some n =>
        rw [h3] at h
        have q3 := must_j h3
        cases h
        simp only [List.length_cons, List.length_nil] at q1 q3
        omega
theorem nam_cn {l : List Tk} {j n : Nat} {k : Int} {es : List Ex} (h : namE l j = some ((k, es), n)) : cnEs es + j ≤ n := by
  unfold namE at h
  split at h
  · cases h2 : exprE l (fuE l) (j + 1) 1 with
    | none => rw [h2] at h; cases h
    | some xk =>
      obtain ⟨y, k⟩ := xk
      rw [h2] at h
      have q2 := (cnF l (fuE l)).e _ _ _ _ h2
      cases h
      rw [cnEs_cons, cnEs_nil]
      omega
  · split at h
    · cases h2 : exprE l (fuE l) (j + 1) 1 with
      | none => rw [h2] at h; cases h
      | some xk =>
        obtain ⟨y, k⟩ := xk
        rw [h2] at h
        simp only at h
        have q2 := (cnF l (fuE l)).e _ _ _ _ h2
        cases h3 : mustE l [⟨#[93]⟩, ⟨#[61]⟩] k with
        | none => rw [h3] at h; cases h
        | some n1 =>
          rw [h3] at h
          simp only at h
          have q3 := must_j h3
          cases h4 : exprE l (fuE l) n1 1 with
          | none => rw [h4] at h; cases h
          | some yk =>
            obtain ⟨z, k4⟩ := yk
            rw [h4] at h
            have q4 := (cnF l (fuE l)).e _ _ _ _ h4
            cases h
            rw [cnEs_cons, cnEs_cons, cnEs_nil]
            simp only [List.length_cons, List.length_nil] at q3
            omega
    · split at h
      · cases h2 : argsE l (fuE l) (j + 1) with
        | none => rw [h2] at h; cases h
        | some xk =>
          obtain ⟨y, k⟩ := xk
          rw [h2] at h
          have q2 := (cnF l (fuE l)).g _ _ _ h2
          cases h
          omega
      · cases h
theorem named_cn {l : List Tk} {i j : Nat} {x : Sm} (h : namedE l i = some (x, j)) : cnS x + i ≤ j := by
  unfold namedE at h
  cases ht : takeE l i 1 with
  | none => rw [ht] at h; cases h
  | some tj =>
    obtain ⟨t, k⟩ := tj
    have q0 := take_j ht
    rw [ht] at h
    simp only at h
    cases h1 : namE l k with
    | none => rw [h1] at h; cases h
    | some zn =>
      obtain ⟨⟨z, es⟩, n⟩ := zn
      rw [h1] at h
      simp only at h
      have q1 := nam_cn h1
      cases h2 : mustE l [⟨#[59]⟩] n with
      | none => rw [h2] at h; cases h
      | some q =>
        rw [h2] at h
        have q2 := must_j h2
        cases h
        rw [cnS_mk, cnSs_nil]
        omega
structure CnS (l : List Tk) (f : Nat) : Prop where
  s : ∀ i x j, stmtE l f i = some (x, j) → cnS x + i ≤ j
  b : ∀ i x j, bodyE l f i = some (x, j) → cnSs x + i ≤ j
  ss : ∀ i x j, stmtsE l f i = some (x, j) → cnSs x + i ≤ j
theorem cnSF (l : List Tk) : ∀ f, CnS l f
  | 0 => ⟨fun _ _ _ h => by simp [stmtE] at h, fun _ _ _ h => by simp [bodyE] at h, fun _ _ _ h => by simp [stmtsE] at h⟩
  | f + 1 => by
    have ih := cnSF l f
    refine ⟨fun i x j h => ?_, fun i x j h => ?_, fun i x j h => ?_⟩
    · rw [stmtE] at h
      split at h
      · cases h1 : roundE l (i + 1) with
        | none => rw [h1] at h; cases h
        | some xj =>
          obtain ⟨y, k⟩ := xj
          rw [h1] at h
          simp only at h
          have q1 := round_cn h1
          cases h2 : mustE l [⟨#[59]⟩] k with
          | none => rw [h2] at h; cases h
          | some n =>
            rw [h2] at h
            have q2 := must_j h2
            cases h
            rw [cnS_mk, cnEs_cons, cnEs_nil, cnSs_nil]
            omega
      · split at h
        · split at h
          · cases h
            rw [cnS_mk, cnEs_nil, cnSs_nil]
            omega
          · cases h1 : exprE l (fuE l) (i + 1) 1 with
            | none => rw [h1] at h; cases h
            | some xj =>
              obtain ⟨y, k⟩ := xj
              rw [h1] at h
              simp only at h
              have q1 := (cnF l (fuE l)).e _ _ _ _ h1
              cases h2 : mustE l [⟨#[59]⟩] k with
              | none => rw [h2] at h; cases h
              | some n =>
                rw [h2] at h
                have q2 := must_j h2
                cases h
                rw [cnS_mk, cnEs_cons, cnEs_nil, cnSs_nil]
                omega
        · split at h
          · cases h1 : roundE l (i + 1) with
            | none => rw [h1] at h; cases h
            | some xj =>
              obtain ⟨y, k⟩ := xj
              rw [h1] at h
              simp only at h
              have q1 := round_cn h1
              cases h2 : bodyE l f k with
              | none => rw [h2] at h; cases h
              | some tk =>
                obtain ⟨t, k2⟩ := tk
                rw [h2] at h
                simp only at h
                have q2 := ih.b _ _ _ h2
                split at h
                · cases h3 : bodyE l f (k2 + 1) with
                  | none => rw [h3] at h; cases h
                  | some bk =>
                    obtain ⟨b, k3⟩ := bk
                    rw [h3] at h
                    have q3 := ih.b _ _ _ h3
                    cases h
                    rw [cnS_mk, cnEs_cons, cnEs_nil]
                    omega
                · cases h
                  rw [cnS_mk, cnEs_cons, cnEs_nil, cnSs_nil]
                  omega
          · split at h
            · cases h1 : roundE l (i + 1) with
              | none => rw [h1] at h; cases h
              | some xj =>
                obtain ⟨y, k⟩ := xj
                rw [h1] at h
                simp only at h
                have q1 := round_cn h1
                cases h2 : bodyE l f k with
                | none => rw [h2] at h; cases h
                | some tk =>
                  obtain ⟨t, k2⟩ := tk
                  rw [h2] at h
                  have q2 := ih.b _ _ _ h2
                  cases h
                  rw [cnS_mk, cnEs_cons, cnEs_nil, cnSs_nil]
                  omega
            · exact named_cn h
    · rw [bodyE] at h
      cases h1 : mustE l [⟨#[123]⟩] i with
      | none => rw [h1] at h; cases h
      | some k =>
        rw [h1] at h
        have q1 := must_j h1
        have q2 := ih.ss _ _ _ h
        omega
    · rw [stmtsE] at h
      split at h
      · cases h
        rw [cnSs_nil]
        omega
      · cases h1 : stmtE l f i with
        | none => rw [h1] at h; cases h
        | some xk =>
          obtain ⟨y, k⟩ := xk
          rw [h1] at h
          simp only at h
          have q1 := ih.s _ _ _ h1
          cases h2 : stmtsE l f k with
          | none => rw [h2] at h; cases h
          | some rk =>
            obtain ⟨r, k2⟩ := rk
            rw [h2] at h
            have q2 := ih.ss _ _ _ h2
            cases h
            rw [cnSs_cons]
            omega
theorem cn_len : ∀ (l : List Sm), l.length ≤ cnSs l
  | [] => Nat.zero_le _
  | x :: l => by
    have := cn_len l
    rw [cnSs_cons, cnS_is]
    simp only [List.length_cons]
    omega
theorem cn_mem {x : Sm} : ∀ {l : List Sm}, x ∈ l → cnS x ≤ cnSs l
  | y :: l, h => by
    rw [cnSs_cons]
    rcases List.mem_cons.1 h with rfl | h
    · omega
    · have := cn_mem h; omega
theorem bdS_of : ∀ (d : Nat) (x : Sm), cnS x ≤ 1000000 → bdS d x
  | 0, _, _ => trivial
  | d + 1, .mk k s es t f, h => by
    rw [cnS_mk] at h
    have h1 := cn_len t
    have h2 := cn_len f
    exact ⟨by omega, by omega, fun x hx => bdS_of d x (by have := cn_mem hx; omega), fun x hx => bdS_of d x (by have := cn_mem hx; omega)⟩
end Go.Proofs.YtddggjmfplohkaaDoor

/- A program that is read is no greater than its tokens, in plain Lean. -/
namespace Go.Proofs.YtddggjmfplohkaaDoor
open Go Go.RowKit
theorem locs_len {l : List Tk} : ∀ (f j : Nat) {r : List ByteArray} {n : Nat}, locsE l f j = some (r, n) → r.length + j ≤ n
  | 0, _, _, _, h => by simp [locsE] at h
  | f + 1, j, r, n, h => by
    rw [locsE] at h
    split at h
    · cases h1 : nmsE l (j + 1) with
      | none => rw [h1] at h; cases h
      | some rk =>
        obtain ⟨r1, k⟩ := rk
        rw [h1] at h
        simp only at h
        have q1 := nms_far h1
        cases h2 : mustE l [⟨#[59]⟩] k with
        | none => rw [h2] at h; cases h
        | some n1 =>
          rw [h2] at h
          simp only at h
          have q2 := must_j h2
          cases h3 : locsE l f n1 with
          | none => rw [h3] at h; cases h
          | some r2 =>
            obtain ⟨r2, q⟩ := r2
            rw [h3] at h
            have q3 := locs_len f _ h3
            cases h
            rw [List.length_append]
            omega
    · cases h
      simp
theorem head_len {l : List Tk} {i j : Nat} {nm : ByteArray} {ps : List ByteArray} {w : Bool} (h : headE l i = some ((nm, ps, w), j)) : ps.length + i + 1 ≤ j := by
  unfold headE at h
  cases h1 : mustE l [⟨#[102, 117, 110, 99]⟩] i with
  | none => rw [h1] at h; cases h
  | some i1 =>
    rw [h1] at h
    simp only at h
    have q1 := must_j h1
    cases h2 : takeE l i1 1 with
    | none => rw [h2] at h; cases h
    | some tk =>
      obtain ⟨t, i2⟩ := tk
      rw [h2] at h
      simp only at h
      have q2 := take_j h2
      cases h3 : mustE l [⟨#[40]⟩] i2 with
      | none => rw [h3] at h; cases h
      | some i3 =>
        rw [h3] at h
        simp only at h
        have q3 := must_j h3
        cases h4 : (if kindE l i3 = 1 then nmsE l i3 else some ([], i3)) with
        | none => rw [h4] at h; cases h
        | some pk =>
          obtain ⟨p, i4⟩ := pk
          rw [h4] at h
          simp only at h
          have q4 : p.length + i3 ≤ i4 := by
            split at h4
            · have := nms_far h4
              omega
            · cases h4
              simp
          cases h5 : mustE l [⟨#[41]⟩] i4 with
          | none => rw [h5] at h; cases h
          | some i5 =>
            rw [h5] at h
            simp only at h
            have q5 := must_j h5
            cases h6 : mustE l [⟨#[123]⟩] (mayE l i5 ⟨#[119, 111, 114, 100]⟩) with
            | none => rw [h6] at h; cases h
            | some i6 =>
              rw [h6] at h
              have q6 := must_j h6
              have q7 : i5 ≤ mayE l i5 (⟨#[119, 111, 114, 100]⟩ : ByteArray) := by
                unfold mayE
                split <;> omega
              cases h
              simp only [List.length_cons, List.length_nil] at q1 q3 q5 q6
              omega
theorem fun_cn {l : List Tk} {i j : Nat} {x : Fu} (h : funE l i = some (x, j)) : x.params.length + x.locals.length + cnSs x.body + i + 1 ≤ j := by
  unfold funE at h
  cases h1 : headE l i with
  | none => rw [h1] at h; cases h
  | some z =>
    obtain ⟨⟨nm, ps, w⟩, j1⟩ := z
    rw [h1] at h
    simp only at h
    have q1 := head_len h1
    cases h2 : locsE l (l.length + 1) j1 with
    | none => rw [h2] at h; cases h
    | some lk =>
      obtain ⟨ls, k⟩ := lk
      rw [h2] at h
      simp only at h
      have q2 := locs_len _ _ h2
      cases h3 : stmtsE l (fuS l) k with
      | none => rw [h3] at h; cases h
      | some bn =>
        obtain ⟨b, n⟩ := bn
        rw [h3] at h
        have q3 := (cnSF l (fuS l)).ss _ _ _ h3
        cases h
        simp only
        omega
theorem decs_len {l : List Tk} : ∀ (f j : Nat) {v : List ByteArray} {a : List Ar} {q : Nat}, decsE l f j = some ((v, a), q) → v.length + a.length + j ≤ q ∧ ∀ x ∈ a, 0 ≤ x.size ∧ x.size < 4294967296
  | 0, _, _, _, _, h => by simp [decsE] at h
  | f + 1, j, v, a, q, h => by
    rw [decsE] at h
    split at h
    · cases h1 : nmsE l (j + 1) with
      | none => rw [h1] at h; cases h
      | some rk =>
        obtain ⟨r1, k⟩ := rk
        rw [h1] at h
        simp only at h
        have q1 := nms_far h1
        cases h2 : mustE l [⟨#[59]⟩] k with
        | none => rw [h2] at h; cases h
        | some n1 =>
          rw [h2] at h
          simp only at h
          have q2 := must_j h2
          cases h3 : decsE l f n1 with
          | none => rw [h3] at h; cases h
          | some r2 =>
            obtain ⟨⟨v2, a2⟩, q'⟩ := r2
            rw [h3] at h
            have q3 := decs_len f _ h3
            cases h
            rw [List.length_append]
            exact ⟨by omega, q3.2⟩
    · split at h
      · cases h1 : takeE l (j + 1) 1 with
        | none => rw [h1] at h; cases h
        | some tk =>
          obtain ⟨t, k⟩ := tk
          rw [h1] at h
          simp only at h
          have q1 := take_j h1
          cases h2 : mustE l [⟨#[91]⟩] k with
          | none => rw [h2] at h; cases h
          | some k2 =>
            rw [h2] at h
            simp only at h
            have q2 := must_j h2
            cases h3 : takeE l k2 2 with
            | none => rw [h3] at h; cases h
            | some uk =>
              obtain ⟨u, k3⟩ := uk
              rw [h3] at h
              simp only at h
              have q3 := take_j h3
              cases h4 : mustE l [⟨#[93]⟩] k3 with
              | none => rw [h4] at h; cases h
              | some k4 =>
                rw [h4] at h
                simp only at h
                have q4 := must_j h4
                cases h5 : mustE l [⟨#[59]⟩] k4 with
                | none => rw [h5] at h; cases h
                | some n1 =>
                  rw [h5] at h
                  simp only at h
                  have q5 := must_j h5
                  cases h6 : decsE l f n1 with
                  | none => rw [h6] at h; cases h
                  | some r2 =>
                    obtain ⟨⟨v2, a2⟩, q'⟩ := r2
                    rw [h6] at h
                    have q6 := decs_len f _ h6
                    cases h
                    have hu := u.num.toNat_lt
                    refine ⟨by simp only [List.length_cons, List.length_nil] at *; omega, fun x hx => ?_⟩
                    rcases List.mem_cons.1 hx with rfl | hx
                    · simp only
                      omega
                    · exact q6.2 x hx
      · cases h
        exact ⟨by simp, fun x hx => by cases hx⟩
theorem funs_cn {l : List Tk} : ∀ (f j : Nat) {r : List Fu} {n : Nat}, funsE l f j = some (r, n) → r.length + j ≤ n ∧ ∀ x ∈ r, x.params.length + x.locals.length + cnSs x.body ≤ n
  | 0, _, _, _, h => by simp [funsE] at h
  | f + 1, j, r, n, h => by
    rw [funsE] at h
    split at h
    · cases h1 : funE l j with
      | none => rw [h1] at h; cases h
      | some xk =>
        obtain ⟨x, k⟩ := xk
        rw [h1] at h
        simp only at h
        have q1 := fun_cn h1
        cases h2 : funsE l f k with
        | none => rw [h2] at h; cases h
        | some rn =>
          obtain ⟨r2, n2⟩ := rn
          rw [h2] at h
          have q2 := funs_cn f _ h2
          cases h
          refine ⟨by simp only [List.length_cons]; omega, fun y hy => ?_⟩
          rcases List.mem_cons.1 hy with rfl | hy
          · omega
          · exact q2.2 y hy
    · cases h
      exact ⟨by simp, fun x hx => by cases hx⟩
structure SzP (p : Pg) (n : Nat) : Prop where
  v : p.vars.length ≤ n
  a : p.arrays.length ≤ n
  f : p.funcs.length ≤ n
  ar : ∀ x ∈ p.arrays, 0 ≤ x.size ∧ x.size < 4294967296
  fs : ∀ x ∈ p.funcs, x.params.length + x.locals.length + cnSs x.body ≤ n
theorem funs_le {l : List Tk} : ∀ (f j : Nat) {r : List Fu} {n : Nat}, j ≤ l.length → funsE l f j = some (r, n) → n ≤ l.length
  | 0, _, _, _, _, h => by simp [funsE] at h
  | f + 1, j, r, n, hj, h => by
    rw [funsE] at h
    split at h
    · cases h1 : funE l j with
      | none => rw [h1] at h; cases h
      | some xk =>
        obtain ⟨x, k⟩ := xk
        rw [h1] at h
        simp only at h
        have q1 := fun_far hj h1
        cases h2 : funsE l f k with
        | none => rw [h2] at h; cases h
        | some rn =>
          obtain ⟨r2, n2⟩ := rn
          rw [h2] at h
          have q2 := funs_le f _ q1.2 h2
          cases h
          exact q2
    · cases h
      exact hj
theorem decs_le {l : List Tk} : ∀ (f j : Nat) {r : List ByteArray × List Ar} {n : Nat}, j ≤ l.length → decsE l f j = some (r, n) → n ≤ l.length
  | 0, _, _, _, _, h => by simp [decsE] at h
  | f + 1, j, r, n, hj, h => by
    rw [decsE] at h
    split at h
    · cases h1 : nmsE l (j + 1) with
      | none => rw [h1] at h; cases h
      | some rk =>
        obtain ⟨r1, k⟩ := rk
        rw [h1] at h
        simp only at h
        have q1 := nms_far h1
        cases h2 : mustE l [⟨#[59]⟩] k with
        | none => rw [h2] at h; cases h
        | some n1 =>
          rw [h2] at h
          simp only at h
          have q2 := must_far h2 (by simp; decide) q1.2.1
          cases h3 : decsE l f n1 with
          | none => rw [h3] at h; cases h
          | some r2 =>
            obtain ⟨⟨v2, a2⟩, q'⟩ := r2
            rw [h3] at h
            have q3 := decs_le f _ q2.2 h3
            cases h
            exact q3
    · split at h
      · cases h1 : takeE l (j + 1) 1 with
        | none => rw [h1] at h; cases h
        | some tk =>
          obtain ⟨t, k⟩ := tk
          rw [h1] at h
          simp only at h
          have q1 := take_some h1
          cases h2 : mustE l [⟨#[91]⟩] k with
          | none => rw [h2] at h; cases h
          | some k2 =>
            rw [h2] at h
            simp only at h
            have q2 := must_far h2 (by simp; decide) (by omega)
            cases h3 : takeE l k2 2 with
            | none => rw [h3] at h; cases h
            | some uk =>
              obtain ⟨u, k3⟩ := uk
              rw [h3] at h
              simp only at h
              have q3 := take_some h3
              cases h4 : mustE l [⟨#[93]⟩] k3 with
              | none => rw [h4] at h; cases h
              | some k4 =>
                rw [h4] at h
                simp only at h
                have q4 := must_far h4 (by simp; decide) (by omega)
                cases h5 : mustE l [⟨#[59]⟩] k4 with
                | none => rw [h5] at h; cases h
                | some n1 =>
                  rw [h5] at h
                  simp only at h
                  have q5 := must_far h5 (by simp; decide) q4.2
                  cases h6 : decsE l f n1 with
                  | none => rw [h6] at h; cases h
                  | some r2 =>
                    obtain ⟨⟨v2, a2⟩, q'⟩ := r2
                    rw [h6] at h
                    have q6 := decs_le f _ q5.2 h6
                    cases h
                    exact q6
      · cases h
        exact hj
theorem prog_sz {l : List Tk} {p : Pg} {n : Nat} (h : progE l = some (p, n)) : SzP p n ∧ n ≤ l.length := by
  unfold progE at h
  cases h1 : decsE l (l.length + 1) 0 with
  | none => rw [h1] at h; cases h
  | some va =>
    obtain ⟨⟨v, a⟩, j⟩ := va
    rw [h1] at h
    simp only at h
    have q1 := decs_len _ _ h1
    have e1 := decs_le _ _ (Nat.zero_le _) h1
    cases h2 : funE l j with
    | none => rw [h2] at h; cases h
    | some xk =>
      obtain ⟨x, k⟩ := xk
      rw [h2] at h
      simp only at h
      have q2 := fun_cn h2
      have e2 := fun_far e1 h2
      cases h3 : funsE l (l.length + 1) k with
      | none => rw [h3] at h; cases h
      | some rn =>
        obtain ⟨r, n'⟩ := rn
        rw [h3] at h
        have q3 := funs_cn _ _ h3
        have e3 := funs_le _ _ e2.2 h3
        cases h
        refine ⟨⟨?_, ?_, ?_, q1.2, fun y hy => ?_⟩, e3⟩
        · show v.length ≤ n; omega
        · show a.length ≤ n; omega
        · show (x :: r).length ≤ n
          simp only [List.length_cons]
          omega
        · rcases List.mem_cons.1 hy with rfl | hy
          · omega
          · exact q3.2 y hy
theorem SzP.bd {p : Pg} {n : Nat} (h : SzP p n) (hn : n ≤ 20000) : BdP p := by
  refine ⟨by have := h.v; omega, by have := h.a; omega, by have := h.f; omega, fun f hf => ?_⟩
  have h1 := h.fs f hf
  have h2 := cn_len f.body
  exact ⟨by omega, by omega, by omega, fun x hx => bdS_of 24 x (by have := cn_mem hx; omega)⟩
theorem RS_bd : ∀ (d : Nat) (x : Sm), RS d x → bdS d x → okS d x
  | 0, _, h, _ => h
  | d + 1, .mk k s es t f, h, hs => by
    obtain ⟨t1, f1, t2, f2⟩ := hs
    have hi : ∀ e ∈ es, okE d e := fun e he => RE_ok d e (h.1 e he)
    have ht : ∀ x ∈ t, okS d x := fun x hx => RS_bd d x (h.2.1 x hx) (t2 x hx)
    have hf : ∀ x ∈ f, okS d x := fun x hx => RS_bd d x (h.2.2.1 x hx) (f2 x hx)
    have key : (es.length ≤ 6 ∧ (k = 2 → es.length = 2)) ∧ (1 ≤ k ∧ k ≤ 7) ∧ (k ≠ 4 → f = []) ∧ (k ≠ 4 → k ≠ 5 → t = []) := by
      rcases h.2.2.2 with ⟨rfl, -, ⟨a, rfl⟩, rfl, rfl⟩ | ⟨rfl, -, ⟨a, b, rfl⟩, rfl, rfl⟩ | ⟨rfl, -, ⟨a, rfl⟩, rfl, rfl⟩ | ⟨rfl, -, ⟨a, rfl⟩⟩ | ⟨rfl, -, ⟨a, rfl⟩, rfl⟩ | ⟨rfl, -, h2, rfl, rfl⟩ | ⟨rfl, -, h2, rfl, rfl⟩
      · simp
      · simp
      · simp
      · simp
      · simp
      · simpa using h2
      · rcases h2 with rfl | ⟨a, rfl⟩ <;> simp
    exact ⟨key.1.1, key.1.2, key.2.1, t1, f1, key.2.2.1, key.2.2.2, hi, ht, hf⟩
theorem SzP.ok {p : Pg} {n : Nat} (hs : SzP p n) (hn : n ≤ 20000) (h : rP p = true) : OkP p ∧ RP p := by
  obtain ⟨hr, hb⟩ := rP_RP h
  have hbd := hs.bd hn
  have h1 := hs.v
  have h2 := hs.a
  have h3 := hs.f
  have h4 : p.funcs.length ≤ 64 := by
    unfold rP at h
    simp only [Bool.and_eq_true, decide_eq_true_eq] at h
    exact h.2.2.1
  refine ⟨⟨by omega, by omega, by omega, hs.ar, fun f hf => ?_, ?_, ?_⟩, hr⟩
  · obtain ⟨q1, q2, q3, q4⟩ := hbd.fs f hf
    exact ⟨q1, q2, q3, 24, by omega, fun x hx => RS_bd 24 x (hb f hf x hx) (q4 x hx)⟩
  · have hF : ∀ f ∈ p.funcs, (prF f).size ≤ 30000000 := fun f hf => by
      have := hs.fs f hf
      have := F_size (hr.funs f hf) (ss_size 1 f.body fun x hx => S_size 24 x (hb f hf x hx) 1 (by omega))
      omega
    have hF2 := Fs_size 30000000 p.funcs hF
    have hA2 := As_size p.arrays hr.arrs
    have hV := cm_size false p.vars hr.vars
    have hP := congrArg List.length (lb_P p)
    have hv : ∀ u, (varL p.vars u).length ≤ 10 + 22 * p.vars.length + u.length := fun u => by
      unfold varL
      split
      · omega
      · simp only [List.length_cons, List.length_append]
        omega
    have hv2 := hv (lb (prAs p.arrays) ++ lb (prFs p.funcs))
    simp only [List.length_append, lb_len] at hP hv2
    omega
  · intro h0
    have hP := congrArg List.length (lb_P p)
    rw [lb_len, h0] at hP
    obtain ⟨t, ht⟩ := head_Fs hr.some
    have hv : ∀ u, u.length ≤ (varL p.vars u).length := fun u => by
      unfold varL
      split
      · omega
      · simp only [List.length_cons, List.length_append]
        omega
    have hv2 := hv (lb (prAs p.arrays) ++ lb (prFs p.funcs))
    rw [ht] at hP hv2
    simp only [List.length_append, List.length_cons] at hP hv2
    omega
end Go.Proofs.YtddggjmfplohkaaDoor

/- Sources as programs, walked. -/
namespace Go.Proofs.YtddggjmfplohkaaDoor
open Go Go.RowKit
/-- What comes of a source: a place and an error; or a program that may be. -/
inductive PgOut (s : ByteArray) : PV → Prop
  | err (a x : Int) (hx : x ≠ 0) (ha : 0 ≤ a ∧ a ≤ s.size) (hno : ∀ l p, lexE s (s.size + 1) 0 = .ok l → progE l = some (p, l.length) → rP p = false) : PgOut s (.tup [.agg pg1, .v (.int .i64 a), .v (.int .i64 x)])
  | ok (l : List Tk) (p : Pg) (hl : lexE s (s.size + 1) 0 = .ok l) (hp : progE l = some (p, l.length)) (hr : rP p = true) : PgOut s (.tup [.agg (pgC p), .v (.int .i64 0), .v (.int .i64 0)])
def PgR (s : ByteArray) : Bool → PV → List HC → Prop := fun b r outs => b = true ∧ outs = [] ∧ PgOut s r
set_option maxHeartbeats 8000000 in
set_option maxRecDepth 100000 in
theorem s_parse (s : ByteArray) (hsz : s.size ≤ 20000) : SpecR (Ctx.mk Tryd.prog globU 7 LaidU) 8 [.v (.string s)] [] (PgR s) := by
  refine spec_of_bodyR CX_mixed CU_gpk Tryd.func8 rfl 24 0 (fun c hc => by cases hc) rfl rfl ?_
  have hask := s_read s hsz
  refine goto_ 2 ?_
  with_reducible apply c_seq
  with_reducible apply c_regI
  with_reducible apply runI_y
  exact want_
  exact step_
  with_reducible apply runI_y
  exact want_
  exact step_
  refine runI_inl _ _ _ want_ (by (conv => whnf); exact ⟨by kernel_rfl, rfl, rfl⟩) rfl rfl hask ?_
  rintro p m' h' hout
  cases hout with
  | lex a x hL =>
    obtain ⟨hx, ha⟩ := lex_err _ _ (Nat.zero_le _) hL
    have hx : (x != 0) = true := by simpa using hx
    simp only [putL, setL, List.replicate_succ, List.replicate_zero]
    with_reducible apply runI_y
    exact want_
    exact step_
    with_reducible apply runI_y
    exact want_
    exact step_
    with_reducible apply runI_y
    exact want_
    exact step_
    with_reducible apply runI_y
    exact want_
    exact step_
    with_reducible apply runI_y
    exact want_
    exact step_
    with_reducible apply runI_end
    refine go_ ?_
    refine ev_ ?_
    exact ⟨_, [], .mk rfl trivial, ⟨rfl, rfl, PgOut.err a x (by simpa using hx) ha fun l p h => by rw [hL] at h; cases h⟩, rfl, rfl⟩
  | bad l a hL hp ha =>
    have ha := at_in hL ha
    simp only [putL, setL, List.replicate_succ, List.replicate_zero]
    with_reducible apply runI_y
    exact want_
    exact step_
    with_reducible apply runI_y
    exact want_
    exact step_
    with_reducible apply runI_y
    exact want_
    exact step_
    with_reducible apply runI_y
    exact want_
    exact step_
    with_reducible apply runI_y
    exact want_
    exact step_
    with_reducible apply runI_end
    refine go_ ?_
    refine ev_ ?_
    exact ⟨_, [], .mk rfl trivial, ⟨rfl, rfl, PgOut.err a 3 (by decide) ha fun l' p h hp' => by rw [hL] at h; cases h; rw [hp] at hp'; cases hp'⟩, rfl, rfl⟩
  | rest l x n a hL hp hn ha =>
    have ha := at_in hL ha
    simp only [putL, setL, List.replicate_succ, List.replicate_zero]
    with_reducible apply runI_y
    exact want_
    exact step_
    with_reducible apply runI_y
    exact want_
    exact step_
    with_reducible apply runI_y
    exact want_
    exact step_
    with_reducible apply runI_y
    exact want_
    exact step_
    with_reducible apply runI_y
    exact want_
    exact step_
    with_reducible apply runI_end
    refine go_ ?_
    refine ev_ ?_
    exact ⟨_, [], .mk rfl trivial, ⟨rfl, rfl, PgOut.err a 3 (by decide) ha fun l' p h hp' => by rw [hL] at h; cases h; rw [hp] at hp'; cases hp'; omega⟩, rfl, rfl⟩
  | ok l x n hL hp hn =>
    obtain ⟨hsp, hnl⟩ := prog_sz hp
    have hlen := lex_len _ _ (Nat.zero_le _) hL
    obtain rfl : n = l.length := by omega
    have hxr := s_xright x (hsp.bd (by omega))
    simp only [putL, setL, List.replicate_succ, List.replicate_zero]
    with_reducible apply runI_y
    exact want_
    exact step_
    with_reducible apply runI_y
    exact want_
    exact step_
    with_reducible apply runI_y
    exact want_
    exact step_
    with_reducible apply runI_y
    exact want_
    exact step_
    with_reducible apply runI_y
    exact want_
    exact step_
    with_reducible apply runI_end
    refine go_ ?_
    with_reducible apply run_y
    exact want_
    · intro K hK
      refine ev_ ?_
      refine vcCall_plain (hxr) (by kernel_rfl) ?_
      refine ev_ ?_
      exact hK
    refine go_ ?_
    cases hr : rP x
    · skip
      refine go_ ?_
      refine ev_ ?_
      exact ⟨_, [], .mk rfl trivial, ⟨rfl, rfl, PgOut.err 0 2 (by decide) ⟨by omega, by omega⟩ fun l' p h hp' => by rw [hL] at h; cases h; rw [hp] at hp'; cases hp'; exact hr⟩, rfl, rfl⟩
    · skip
      refine go_ ?_
      refine ev_ ?_
      exact ⟨_, [], .mk rfl trivial, ⟨rfl, rfl, PgOut.ok l x hL hp hr⟩, rfl, rfl⟩
end Go.Proofs.YtddggjmfplohkaaDoor
