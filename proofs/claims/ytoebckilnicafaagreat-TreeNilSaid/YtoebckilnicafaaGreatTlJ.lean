/-
The closed facts of TreeNil's program, together.
-/
import Derived.Test.YtoebckilnicafaaGreatTlI
import Derived.Test.YtoebckilnicafaaGreatTlU
import Derived.Test.YtoebckilnicafaaGreatTlV
import Derived.Test.YtoebckilnicafaaGreatTlN
namespace Go.Proofs.YtoebckilnicafaaGreat.treeNil
theorem facts : joinedFacts Tryz.prog 4 Tryz.f4 Rows.treeNilSpec Rows.treeNilRow = true := by
  unfold joinedFacts
  rw [inPl, unf, rec, nam]
  kernel_rfl
theorem name : Tryz.prog.funcNamed Rows.treeNilRow.func = some 4 := by kernel_rfl
end Go.Proofs.YtoebckilnicafaaGreat.treeNil
