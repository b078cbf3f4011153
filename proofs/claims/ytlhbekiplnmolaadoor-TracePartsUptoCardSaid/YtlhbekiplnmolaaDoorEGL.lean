/- The package-level variables that are known, and stay as they are. -/
import Derived.Test.YtlhbekiplnmolaaDoorProg
import Derived.WalkKit
import Derived.Lib.LaidTab
import Derived.Lib.ItoaMem
set_option linter.unusedVariables false
set_option linter.unusedSimpArgs false
namespace Go.Proofs.YtlhbekiplnmolaaDoor
open Go.RowKit
noncomputable def pow10Cells : Array Value := (Lib.pow10Tab.map fun n => Value.int .u64 n).toArray
noncomputable def GLs : List (Nat × Array Value) := [((Tryd.prog.globalNamed "internal/strconv.uint64pow10").getD 0, pow10Cells)]
/-- Variables that hold some whole number. -/
noncomputable def GLi : List Nat := [(Tryd.prog.globalNamed "internal/bytealg.MaxLen").getD 0]
end Go.Proofs.YtlhbekiplnmolaaDoor
