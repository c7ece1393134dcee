import Derived.Test.YtddggjmfplohkaaDoorTre
import Derived.Test.YtddggjmfplohkaaDoorTc
/- The printer in plain Lean. -/
namespace Go.Proofs.YtddggjmfplohkaaDoor
open Go.RowKit
def opE (o : Int) : ByteArray := if 4 ≤ o then signsL.getD (o - 4).toNat ByteArray.empty else ByteArray.empty
def sgE (k o : Int) : ByteArray := if k = 8 then ⟨#[38, 38]⟩ else if k = 9 then ⟨#[124, 124]⟩ else opE o
mutual
/-- An expression's text. -/
def prE : Ex → ByteArray
  | .mk k o n s ks =>
    if k = 1 then decE n.toNat else if k = 2 then s
    else if k = 3 then s ++ ⟨#[91]⟩ ++ prEs false ks ++ ⟨#[93]⟩
    else if k = 4 then s ++ ⟨#[40]⟩ ++ prEs false ks ++ ⟨#[41]⟩
    else if k = 5 then ⟨#[103, 101, 116, 40, 41]⟩
    else if k = 7 then ⟨#[33]⟩ ++ prEs false ks
    else prB (⟨#[32]⟩ ++ sgE k o ++ ⟨#[32]⟩) ks
/-- Both sides, a sign between. -/
def prB : ByteArray → List Ex → ByteArray
  | _, [] => ByteArray.empty
  | g, a :: r => ⟨#[40]⟩ ++ prE a ++ g ++ prEs false r ++ ⟨#[41]⟩
/-- Expressions' texts, with a comma and a blank between; and ahead, too. -/
def prEs : Bool → List Ex → ByteArray
  | _, [] => ByteArray.empty
  | c, e :: l => (if c = true then ⟨#[44, 32]⟩ else ByteArray.empty) ++ prE e ++ prEs true l
end
/-- Two blanks for each level. -/
def indE : Nat → ByteArray
  | 0 => ByteArray.empty
  | n + 1 => indE n ++ ⟨#[32, 32]⟩
mutual
/-- A statement's lines. -/
def prS : Nat → Sm → ByteArray
  | lv, .mk k s es t f =>
    if k = 1 then indE lv ++ (s ++ ⟨#[32, 61, 32]⟩) ++ prEs false es ++ ⟨#[59]⟩ ++ ⟨#[10]⟩
    else if k = 2 then match es with
      | [] => ByteArray.empty
      | a :: r => indE lv ++ (s ++ ⟨#[91]⟩) ++ prE a ++ ⟨#[93, 32, 61, 32]⟩ ++ prEs false r ++ ⟨#[59]⟩ ++ ⟨#[10]⟩
    else if k = 3 then indE lv ++ ⟨#[112, 117, 116, 40]⟩ ++ prEs false es ++ ⟨#[41, 59]⟩ ++ ⟨#[10]⟩
    else if k = 6 then indE lv ++ (s ++ ⟨#[40]⟩) ++ prEs false es ++ ⟨#[41, 59]⟩ ++ ⟨#[10]⟩
    else if k = 7 then indE lv ++ ⟨#[114, 101, 116, 117, 114, 110]⟩ ++ (match es with
      | [] => ByteArray.empty
      | a :: r => ⟨#[32]⟩ ++ prEs false (a :: r)) ++ ⟨#[59]⟩ ++ ⟨#[10]⟩
    else indE lv ++ (if k = 5 then ⟨#[119, 104, 105, 108, 101, 32, 40]⟩ else ⟨#[105, 102, 32, 40]⟩) ++ prEs false es ++ ⟨#[41, 32, 123]⟩ ++ ⟨#[10]⟩ ++ prSs (lv + 1) t
      ++ (if f.isEmpty = true then ByteArray.empty else indE lv ++ ⟨#[125, 32, 101, 108, 115, 101, 32, 123]⟩ ++ ⟨#[10]⟩ ++ prSs (lv + 1) f) ++ indE lv ++ ⟨#[125]⟩ ++ ⟨#[10]⟩
def prSs : Nat → List Sm → ByteArray
  | _, [] => ByteArray.empty
  | lv, x :: l => prS lv x ++ prSs lv l
end
/-- A function's lines. -/
def prF (f : Fu) : ByteArray :=
  (⟨#[102, 117, 110, 99, 32]⟩ ++ f.name ++ ⟨#[40]⟩ ++ joinE f.params ⟨#[44, 32]⟩ ++ ⟨#[41]⟩ ++ (if f.word = true then ⟨#[32, 119, 111, 114, 100]⟩ else ByteArray.empty) ++ ⟨#[32, 123]⟩) ++ ⟨#[10]⟩
    ++ (if f.locals = [] then ByteArray.empty else indE 1 ++ (⟨#[118, 97, 114, 32]⟩ ++ joinE f.locals ⟨#[44, 32]⟩ ++ ⟨#[59]⟩) ++ ⟨#[10]⟩) ++ prSs 1 f.body ++ ⟨#[125]⟩ ++ ⟨#[10]⟩
def prA (a : Ar) : ByteArray := (⟨#[97, 114, 114, 97, 121, 32]⟩ ++ a.name ++ ⟨#[91]⟩ ++ decE a.size.toNat ++ ⟨#[93, 59]⟩) ++ ⟨#[10]⟩
def prAs : List Ar → ByteArray
  | [] => ByteArray.empty
  | a :: l => prA a ++ prAs l
def prFs : List Fu → ByteArray
  | [] => ByteArray.empty
  | a :: l => prF a ++ prFs l
/-- A program's text. -/
def prP (p : Pg) : ByteArray := (if p.vars = [] then ByteArray.empty else (⟨#[118, 97, 114, 32]⟩ ++ joinE p.vars ⟨#[44, 32]⟩ ++ ⟨#[59]⟩) ++ ⟨#[10]⟩) ++ prAs p.arrays ++ prFs p.funcs
/-- What the printer asks of an expression: the parts that it looks at are there; of a depth. -/
def okE : Nat → Ex → Prop
  | 0, _ => False
  | d + 1, .mk k o _ _ ks => ks.length ≤ 6 ∧ (k = 6 → 4 ≤ o ∧ o ≤ 15) ∧ (k = 6 ∨ k = 8 ∨ k = 9 → ks.length = 2) ∧ (1 ≤ k ∧ k ≤ 9) ∧ ∀ e ∈ ks, okE d e
def okS : Nat → Sm → Prop
  | 0, _ => False
  | d + 1, .mk k _ es t f => es.length ≤ 6 ∧ (k = 2 → es.length = 2) ∧ (1 ≤ k ∧ k ≤ 7) ∧ t.length ≤ 1000000 ∧ f.length ≤ 1000000 ∧ (k ≠ 4 → f = []) ∧ (k ≠ 4 → k ≠ 5 → t = []) ∧ (∀ e ∈ es, okE d e) ∧ (∀ x ∈ t, okS d x) ∧ ∀ x ∈ f, okS d x
theorem app_nil (a : ByteArray) : a ++ ByteArray.empty = a := by simp
theorem nil_app (a : ByteArray) : ByteArray.empty ++ a = a := by simp
example (o : Int) (n : UInt32) (s : ByteArray) (ks : List Ex) : prE (.mk 3 o n s ks) = s ++ ⟨#[91]⟩ ++ prEs false ks ++ ⟨#[93]⟩ := rfl
example (s : ByteArray) (es : List Ex) (t f : List Sm) : prS 3 (.mk 3 s es t f) = indE 3 ++ ⟨#[112, 117, 116, 40]⟩ ++ prEs false es ++ ⟨#[41, 59]⟩ ++ ⟨#[10]⟩ := rfl
end Go.Proofs.YtddggjmfplohkaaDoor
