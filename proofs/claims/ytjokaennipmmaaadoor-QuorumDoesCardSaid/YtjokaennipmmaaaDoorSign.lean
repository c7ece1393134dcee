/- onetime.Sign: it returns the signature's values, in a row of its own; the heap only grows. -/
import Derived.Test.YtjokaennipmmaaaDoorGen
import Derived.Test.YtjokaennipmmaaaDoorSteps
namespace Go.Proofs.YtjokaennipmmaaaDoor
open Go.RowKit
structure SignAt (w1 wr : World) (v : Value) (seed msg : D) (q : Nat) : Prop where
  own : wr.ownsRow w1.heap.size 30 4 v q (dcells (signTo seed msg q))
  gro : Grow w1 wr
end Go.Proofs.YtjokaennipmmaaaDoor
