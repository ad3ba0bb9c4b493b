/-
A closed fact of TreeNames' program.
-/
import Derived.Test.YtoebckilnicafaaGreatRows
import Derived.JoinedOf
namespace Go.Proofs.YtoebckilnicafaaGreat.treeNames
theorem nam : (Rows.treeNamesRow.named == Tryz.prog.varsNamed 3) = true := by kernel_rfl
end Go.Proofs.YtoebckilnicafaaGreat.treeNames
