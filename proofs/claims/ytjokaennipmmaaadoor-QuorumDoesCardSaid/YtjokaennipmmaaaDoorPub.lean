/- onetime.Public and its closure: what they return is what the plain functions give; the heap only grows. -/
import Derived.Test.YtjokaennipmmaaaDoorTog
import Derived.Laws.EntriesVeiled
namespace Go.Proofs.YtjokaennipmmaaaDoor
open Go.RowKit
abbrev walkFn (b : Nat) : Value := .func (.func 52) #[] #[.pointer (some ⟨b, 0, none⟩)]
end Go.Proofs.YtjokaennipmmaaaDoor
