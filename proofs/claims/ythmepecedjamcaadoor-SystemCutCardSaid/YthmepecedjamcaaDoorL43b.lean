import Derived.Test.YthmepecedjamcaaDoorP4
/- The laws HeadOn and HeadGoes. -/
namespace Go.Proofs.YthmepecedjamcaaDoor
open Go.RowKit
set_option linter.unnecessarySimpa false
end Go.Proofs.YthmepecedjamcaaDoor
