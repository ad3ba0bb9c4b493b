/-
A closed fact of TreeNil's program.
-/
import Derived.Test.YtoebckilnicafaaGreatRows
import Derived.JoinedOf
namespace Go.Proofs.YtoebckilnicafaaGreat.treeNil
theorem inPl : (Rows.treeNilRow.inPlace == Tryz.prog.inPlace 4) = true := by kernel_rfl
end Go.Proofs.YtoebckilnicafaaGreat.treeNil
