/-
  Stable sorting in plain Lean: rotations of a part of an array, what keeps the order of equals, and that two sorted lists with the same classes of equals are one. No program in sight.
  Plain facts: numbers that rise strictly are told by their members; what Compact leaves of sorted numbers rises strictly; one number laid in among such.
  Plain facts on nodes by their weights: an order is told by who is there; who goes leaves the others as they were. No function of the program is entered.
-/
import Derived.Sort.Statements
import Derived.Sort.WalkA
import Derived.Sort.LotA
import Derived.Shelf.GgSortFunc.RowK
import Derived.Lib.SlicesCompact
namespace Go.Proofs.YtenkfnhcdfmkaaaGreat
open Go.Sort
set_option linter.unusedVariables false
variable {α : Type} [Inhabited α]
end Go.Proofs.YtenkfnhcdfmkaaaGreat
namespace Go.Proofs.YtenkfnhcdfmkaaaGreat
open Go.Lib Go.Sort
set_option linter.unusedVariables false
end Go.Proofs.YtenkfnhcdfmkaaaGreat
namespace Go.Proofs.YtenkfnhcdfmkaaaGreat
open Go.Sort
set_option linter.unusedVariables false
section
variable {α : Type}
end
end Go.Proofs.YtenkfnhcdfmkaaaGreat
