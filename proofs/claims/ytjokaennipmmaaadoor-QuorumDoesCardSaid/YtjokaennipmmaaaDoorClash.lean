import Derived.Test.YtjokaennipmmaaaDoorP42a
import Derived.Test.YtjokaennipmmaaaDoorP4
import Derived.Test.YtjokaennipmmaaaDoorMk
/- Pairs of digests: how two are compared. -/
namespace Go.Proofs.YtjokaennipmmaaaDoor
open Go.RowKit
set_option linter.unnecessarySimpa false
def prC (a b : D) : Array Value := #[u (a.1.getD 0 0), u (a.1.getD 1 0), u (a.1.getD 2 0), u (a.1.getD 3 0), u (b.1.getD 0 0), u (b.1.getD 1 0), u (b.1.getD 2 0), u (b.1.getD 3 0)]
theorem sizeOf_D (w : World) : (sizeOf 30).run Tryd.prog w = .ok 4 w := by kernel_rfl
theorem part_0 (a b : D) (w : World) : (part 30 (prC a b) (0 * 4)).run Tryd.prog w = .ok (.agg (us a.1)) w := by rw [us_eq4]; kernel_rfl
theorem part_1 (a b : D) (w : World) : (part 30 (prC a b) (1 * 4)).run Tryd.prog w = .ok (.agg (us b.1)) w := by rw [us_eq4]; kernel_rfl
def pP (a b : D) : List PV := [.v (u (a.1.getD 0 0)), .v (u (a.1.getD 1 0)), .v (u (a.1.getD 2 0)), .v (u (a.1.getD 3 0)), .v (u (b.1.getD 0 0)), .v (u (b.1.getD 1 0)), .v (u (b.1.getD 2 0)), .v (u (b.1.getD 3 0))]
theorem pP_flat (a b : D) : (PV.agg (pP a b)).flat = some (.agg (prC a b)) := rfl
end Go.Proofs.YtjokaennipmmaaaDoor
/- Clash of the document and of the program, as sayings. -/
namespace Go.Proofs.YtjokaennipmmaaaDoor
open Go.RowKit
set_option linter.unnecessarySimpa false
theorem dsP_rest (l : List D) (k : Nat) : ((dsP l).drop k).take ((dsP l).length - k) = dsP (l.drop k) := by
  rw [dsP_cut, dsP_len]
  congr 1
  exact List.take_of_length_le (by rw [List.length_drop]; exact Nat.le_refl _)
def clashP (r : (D × D) × (D × D) × Bool) : PV := .tup [.agg (pP r.1.1 r.1.2), .agg (pP r.2.1.1 r.2.1.2), .v (.bool r.2.2)]
end Go.Proofs.YtjokaennipmmaaaDoor
/- merkle.Clash, as a saying. -/
namespace Go.Proofs.YtjokaennipmmaaaDoor
open Go.RowKit
set_option linter.unnecessarySimpa false
def zP : List PV := [.v (.int .u32 0), .v (.int .u32 0), .v (.int .u32 0), .v (.int .u32 0), .v (.int .u32 0), .v (.int .u32 0), .v (.int .u32 0), .v (.int .u32 0)]
end Go.Proofs.YtjokaennipmmaaaDoor
/- The law MerkleClashes. -/
namespace Go.Proofs.YtjokaennipmmaaaDoor
open Go.RowKit
set_option linter.unnecessarySimpa false
end Go.Proofs.YtjokaennipmmaaaDoor
