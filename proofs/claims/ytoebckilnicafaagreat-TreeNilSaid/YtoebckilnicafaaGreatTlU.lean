/-
A closed fact of TreeNil's program.
-/
import Derived.Test.YtoebckilnicafaaGreatRows
import Derived.JoinedOf
namespace Go.Proofs.YtoebckilnicafaaGreat.treeNil
theorem unf : (Rows.treeNilRow.unfollowed == Tryz.prog.unfollowed 4) = true := by kernel_rfl
end Go.Proofs.YtoebckilnicafaaGreat.treeNil
