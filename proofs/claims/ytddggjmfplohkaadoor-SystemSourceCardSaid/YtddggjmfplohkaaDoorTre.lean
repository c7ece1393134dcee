import Derived.Test.YtddggjmfplohkaaDoorRowA
import Derived.Test.YtddggjmfplohkaaDoorTa
import Derived.SizedLaws
/- What came in as an argument, of whatever shape, types that lead back to themselves among them, reads as plain values, and its rows are as long as the form lets them be; no law is named here. -/
namespace Go.Proofs.YtddggjmfplohkaaDoor
open Go.ChangeShapes Go.WideShapes Go.ChangeAt Go.WideMaps Go.WideElems Go.RowKit
/-- The shape of a type: a struct's fields are a row of shapes. -/
inductive Sh where
  | int (k : IntKind)
  | bool
  | str
  | ext (i : Nat)
  | sl (s : Sh)
  | st (f : Sh)
  | nil
  | cons (a b : Sh)
/-- Plain cells of a shape. -/
def Is (X : Nat → List PV → Prop) : Sh → List PV → Prop
  | .int k, cs => ∃ n, (Lit.int k n).wf = true ∧ cs = [.v (.int k n)]
  | .bool, cs => ∃ b, cs = [.v (.bool b)]
  | .str, cs => ∃ s : ByteArray, s.size ≤ maxLen ∧ cs = [.v (.string s)]
  | .ext i, cs => X i cs
  | .sl s, cs => ∃ es : List (List PV), es.length ≤ reachBytes ∧ (∀ e ∈ es, Is X s e) ∧ cs = [.sl .any es]
  | .st f, cs => Is X f cs
  | .nil, cs => cs = []
  | .cons a b, cs => ∃ x y, Is X a x ∧ Is X b y ∧ cs = x ++ y
theorem Is.leaf {X : Nat → List PV → Prop} (hX : ∀ i ps, X i ps → ∀ p ∈ ps, p.leaf = true) : ∀ {s : Sh} {ps : List PV}, Is X s ps → ∀ p ∈ ps, p.leaf = true := by
  intro s
  induction s with
  | int k => rintro ps ⟨n, _, rfl⟩ p hp; simp at hp; subst hp; rfl
  | bool => rintro ps ⟨b, rfl⟩ p hp; simp at hp; subst hp; rfl
  | str => rintro ps ⟨s, _, rfl⟩ p hp; simp at hp; subst hp; rfl
  | ext i => exact fun h => hX i _ h
  | sl s ih => rintro ps ⟨es, _, _, rfl⟩ p hp; simp at hp; subst hp; rfl
  | st f ih => exact fun h => ih h
  | nil => rintro ps rfl p hp; cases hp
  | cons a b iha ihb =>
    rintro ps ⟨x, y, hx, hy, rfl⟩ p hp
    rcases List.mem_append.1 hp with hp | hp
    · exact iha hx p hp
    · exact ihb hy p hp
section
variable {H : Type} {enc : TypeId × Value → H} {P : Program} {w : World} {base : Nat} {spare : Nat → Bool} {held : Bool}
end
end Go.Proofs.YtddggjmfplohkaaDoor

/- Programs as trees: expressions, statements, functions; their cells; what came in as an argument is one. -/
namespace Go.Proofs.YtddggjmfplohkaaDoor
open Go Go.ChangeShapes Go.WideShapes Go.ChangeAt Go.WideMaps Go.WideElems Go.RowKit
inductive Ex where
  | mk (kind op : Int) (num : UInt32) (name : ByteArray) (kids : List Ex)
inductive Sm where
  | mk (kind : Int) (name : ByteArray) (e : List Ex) (then_ else_ : List Sm)
structure Fu where
  name : ByteArray
  params : List ByteArray
  locals : List ByteArray
  word : Bool
  body : List Sm
structure Ar where
  name : ByteArray
  size : Int
structure Pg where
  vars : List ByteArray
  arrays : List Ar
  funcs : List Fu
mutual
def exC : Ex → List PV
  | .mk k o n s ks => [.v (.int .i64 k), .v (.int .i64 o), .v (.int .u32 n.toNat), .v (.string s), .sl .any (exsC ks)]
def exsC : List Ex → List (List PV)
  | [] => []
  | e :: l => exC e :: exsC l
end
mutual
def smC : Sm → List PV
  | .mk k s es t f => [.v (.int .i64 k), .v (.string s), .sl .any (exsC es), .sl .any (smsC t), .sl .any (smsC f)]
def smsC : List Sm → List (List PV)
  | [] => []
  | e :: l => smC e :: smsC l
end
def fuC (f : Fu) : List PV := [.v (.string f.name), .sl .any (ssP f.params), .sl .any (ssP f.locals), .v (.bool f.word), .sl .any (smsC f.body)]
def arC (a : Ar) : List PV := [.v (.string a.name), .v (.int .i64 a.size)]
def pgC (p : Pg) : List PV := [.sl .any (ssP p.vars), .sl .any (p.arrays.map arC), .sl .any (p.funcs.map fuC)]
theorem exsC_eq (l : List Ex) : exsC l = l.map exC := by
  induction l with
  | nil => rfl
  | cons e l ih => rw [exsC, ih]; rfl
theorem smsC_eq (l : List Sm) : smsC l = l.map smC := by
  induction l with
  | nil => rfl
  | cons e l ih => rw [smsC, ih]; rfl
theorem exsC_len (l : List Ex) : (exsC l).length = l.length := by rw [exsC_eq, List.length_map]
theorem smsC_len (l : List Sm) : (smsC l).length = l.length := by rw [smsC_eq, List.length_map]
section
variable {H : Type} {enc : TypeId × Value → H} {w : World} {base : Nat} {spare : Nat → Bool} {held : Bool}
end
end Go.Proofs.YtddggjmfplohkaaDoor
