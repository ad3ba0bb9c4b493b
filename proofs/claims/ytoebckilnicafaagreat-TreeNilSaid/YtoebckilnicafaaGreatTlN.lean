/-
A closed fact of TreeNil's program.
-/
import Derived.Test.YtoebckilnicafaaGreatRows
import Derived.JoinedOf
namespace Go.Proofs.YtoebckilnicafaaGreat.treeNil
theorem nam : (Rows.treeNilRow.named == Tryz.prog.varsNamed 4) = true := by kernel_rfl
end Go.Proofs.YtoebckilnicafaaGreat.treeNil
