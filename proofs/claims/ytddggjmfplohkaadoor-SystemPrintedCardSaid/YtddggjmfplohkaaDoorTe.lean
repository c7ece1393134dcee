import Derived.Test.YtddggjmfplohkaaDoorTf
import Derived.Test.YtddggjmfplohkaaDoorTz
/- Which programs may be, in plain Lean; what comes of it. -/
namespace Go.Proofs.YtddggjmfplohkaaDoor
open Go.RowKit
def kdE (b : Bool) (k o : Int) (n : Nat) : Bool :=
  if k = 1 ∨ k = 2 ∨ k = 5 then decide (n = 0)
  else if k = 3 ∨ k = 7 then decide (n = 1) && b
  else if k = 4 then decide (n ≤ 6) && b
  else if k = 6 then decide (4 ≤ o) && (decide (o ≤ 15) && (decide (n = 2) && b))
  else if k = 8 ∨ k = 9 then decide (n = 2) && b else false
/-- May an expression be, with so many levels left? -/
noncomputable def rX : Nat → Ex → Bool
  | 0, _ => false
  | r + 1, .mk k o n s ks =>
    if (k ≠ 6 ∧ o ≠ 0) ∨ (k ≠ 1 ∧ n ≠ 0) then false
    else if k = 2 ∨ k = 3 ∨ k = 4 then (if isE s = true then kdE (ks.all fun e => rX r e) k o ks.length else false)
    else (if s = ByteArray.empty then kdE (ks.all fun e => rX r e) k o ks.length else false)
theorem isE_nil : isE ByteArray.empty = false := by
  unfold isE nmE
  rw [show decide (ByteArray.empty.size ≠ 0) = false from rfl]
  simp
def fitE (k : Int) (n : Nat) : Bool :=
  if k = 1 ∨ k = 3 ∨ k = 4 ∨ k = 5 then decide (n = 1) else if k = 2 then decide (n = 2) else if k = 6 then decide (n ≤ 6) else if k = 7 then decide (n ≤ 1) else false
/-- May a statement be, with so many levels left? -/
noncomputable def rS : Nat → Sm → Bool
  | 0, _ => false
  | r + 1, .mk k s es t f =>
    if (k ≠ 4 ∧ f.length ≠ 0) ∨ (k ≠ 4 ∧ k ≠ 5 ∧ t.length ≠ 0) then false
    else if k = 1 ∨ k = 2 ∨ k = 6 then (if isE s = true then (fitE k es.length && ((es.all fun e => rX r e) && ((t.all fun x => rS r x) && (f.all fun x => rS r x)))) else false)
    else (if s = ByteArray.empty then (fitE k es.length && ((es.all fun e => rX r e) && ((t.all fun x => rS r x) && (f.all fun x => rS r x)))) else false)
noncomputable def arOk (a : Ar) : Bool := isE a.name && (decide (1 ≤ a.size) && decide (a.size ≤ 4096))
noncomputable def fuOk (f : Fu) : Bool := isE f.name && (decide (f.params.length ≤ 6) && (f.params.all isE && (f.locals.all isE && f.body.all fun x => rS 24 x)))
/-- May a program be? -/
noncomputable def rP (p : Pg) : Bool := p.vars.all isE && (decide (1 ≤ p.funcs.length) && (decide (p.funcs.length ≤ 64) && (p.arrays.all arOk && p.funcs.all fuOk)))
/-- Is a program small, and may it be? -/
noncomputable def smP (p : Pg) : Bool := decide (0 < fewP p 100) && rP p
/-- The saying of one expression, at a level; the kids are told. -/
def TellsR (lv lv1 : Int) (r : Nat) (k o : Int) (n : UInt32) (s : ByteArray) (ks : List Ex) : Prop :=
  Spec (Ctx.mk Tryd.prog globT 7 LaidT) 77 [.sl .any (exsC ks), .v (.int .i64 lv1)] [] (.v (.bool (ks.all fun e => rX r e))) [] →
  Spec (Ctx.mk Tryd.prog globT 7 LaidT) 86 [.agg (exC (.mk k o n s ks)), .v (.int .i64 lv)] [] (.v (.bool (rX (r + 1) (.mk k o n s ks)))) []
/-- The saying of one statement, at a level; what it holds is told. -/
def TellsT (lv lv1 : Int) (r : Nat) (k : Int) (s : ByteArray) (es : List Ex) (t f : List Sm) : Prop :=
  Spec (Ctx.mk Tryd.prog globT 7 LaidT) 77 [.sl .any (exsC es), .v (.int .i64 lv1)] [] (.v (.bool (es.all fun e => rX r e))) [] →
  Spec (Ctx.mk Tryd.prog globT 7 LaidT) 33 [.sl .any (smsC t), .v (.int .i64 lv1)] [] (.v (.bool (t.all fun x => rS r x))) [] →
  Spec (Ctx.mk Tryd.prog globT 7 LaidT) 33 [.sl .any (smsC f), .v (.int .i64 lv1)] [] (.v (.bool (f.all fun x => rS r x))) [] →
  Spec (Ctx.mk Tryd.prog globT 7 LaidT) 60 [.agg (smC (.mk k s es t f)), .v (.int .i64 lv)] [] (.v (.bool (rS (r + 1) (.mk k s es t f)))) []
end Go.Proofs.YtddggjmfplohkaaDoor
