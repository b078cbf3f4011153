/- Frames: another lane, and lists of entries told apart. Printed by wip/k/genF.py. -/
import Derived.Test.YthapghhmeicbnaaDoorKF05
set_option linter.unusedVariables false
set_option linter.unusedSimpArgs false
namespace Go.Proofs.YthapghhmeicbnaaDoor
open Go.RowKit

theorem row_one (l : List Ent) : (encE.row l).all Value.oneCell' = true := by
  simp only [Enc.row, List.all_flatMap, List.all_eq_true]
  intro x _ v hv
  simp only [encE, Ent.cells, List.mem_cons, List.mem_nil_iff, or_false] at hv
  rcases hv with rfl | rfl | rfl | rfl | rfl | rfl <;> rfl

end Go.Proofs.YthapghhmeicbnaaDoor
