/-
The closed facts of TreeNames' program, together.
-/
import Derived.Test.YtoebckilnicafaaGreatTnI
import Derived.Test.YtoebckilnicafaaGreatTnU
import Derived.Test.YtoebckilnicafaaGreatTnV
import Derived.Test.YtoebckilnicafaaGreatTnN
namespace Go.Proofs.YtoebckilnicafaaGreat.treeNames
theorem facts : joinedFacts Tryz.prog 3 Tryz.f3 Rows.treeNamesSpec Rows.treeNamesRow = true := by
  unfold joinedFacts
  rw [inPl, unf, rec, nam]
  kernel_rfl
theorem name : Tryz.prog.funcNamed Rows.treeNamesRow.func = some 3 := by kernel_rfl
end Go.Proofs.YtoebckilnicafaaGreat.treeNames
