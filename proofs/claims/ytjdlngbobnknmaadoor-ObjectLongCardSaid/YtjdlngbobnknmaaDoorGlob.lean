/- The package-level variables whose values the proofs of this seat lean on. -/
import Derived.Test.YtjdlngbobnknmaaDoorSepF
set_option linter.all false
namespace Go.Proofs.YtjdlngbobnknmaaDoor
set_option linter.all false
open Go.RowKit
/-- What a package-level variable holds: cells of plain values, or an error made of a text. -/
inductive GE where
  | cells (cs : List Value)
  | err (t : TypeId) (l : List UInt8)
def globs : List (Nat × GE) := [(0, .cells ([1, 10, 100, 1000, 10000, 100000, 1000000, 10000000, 100000000, 1000000000, 10000000000, 100000000000, 1000000000000, 10000000000000, 100000000000000, 1000000000000000, 10000000000000000, 100000000000000000, 1000000000000000000, 10000000000000000000].map fun z => .int .u64 z))]
/-- Package-level variables of which the proofs know that they hold some integer. -/
def globInts : List Nat := []
end Go.Proofs.YtjdlngbobnknmaaDoor
