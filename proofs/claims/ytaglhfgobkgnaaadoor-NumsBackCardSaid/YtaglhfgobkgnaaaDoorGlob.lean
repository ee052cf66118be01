/- The package-level variables whose values the proofs of this seat lean on. -/
import Derived.Test.YtaglhfgobkgnaaaDoorSepF
set_option linter.all false
namespace Go.Proofs.YtaglhfgobkgnaaaDoor
set_option linter.all false
open Go.RowKit
/-- What a package-level variable holds: cells of plain values, or an error made of a text. -/
inductive GE where
  | cells (cs : List Value)
  | err (t : TypeId) (l : List UInt8)
def globs : List (Nat × GE) := [(2, .cells ([1, 10, 100, 1000, 10000, 100000, 1000000, 10000000, 100000000, 1000000000, 10000000000, 100000000000, 1000000000000, 10000000000000, 100000000000000, 1000000000000000, 10000000000000000, 100000000000000000, 1000000000000000000, 10000000000000000000].map fun z => .int .u64 z)),
  (1, .err 78 [118, 97, 108, 117, 101, 32, 111, 117, 116, 32, 111, 102, 32, 114, 97, 110, 103, 101]),
  (0, .err 78 [105, 110, 118, 97, 108, 105, 100, 32, 115, 121, 110, 116, 97, 120])]
end Go.Proofs.YtaglhfgobkgnaaaDoor
